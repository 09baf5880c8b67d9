/- Contracts of the functions that the laws of this seat reach: part 6 of 8. -/
import Derived.Test.YtnhfeoniiadjfaaC5
import Derived.IntWalk
import Derived.RangeFuncNested
import Derived.RangeFuncBound
import Derived.RangeFuncCalls
import Derived.RangeFuncLeaves
import Derived.Shelf.RegionOpen
import Derived.OwnWalkIn
import Derived.TacticsInMore
import Derived.LoopNIn
import Derived.LoopIn
import Derived.Maps.OwnIn
/- last of the law. -/
namespace Go.Proofs.Ytnhfeoniiadjfaa.Lst
open Go.RowKit Go.Proofs.Ytnhfeoniiadjfaa.K Go.Proofs.Ytnhfeoniiadjfaa.Help Go.Proofs.Ytnhfeoniiadjfaa.Pfx Go.Proofs.Ytnhfeoniiadjfaa.Peer
set_option linter.unusedVariables false
/-- what the sets say of a key: the last one that names it -/
def lastD (l : List SetD) (x : List UInt8) : Option SetD := l.reverse.find? (fun s => decide (s.1 = x))
def lastV (o : Option SetD) : List UInt8 := match o with | some s => s.2.1 | none => []
def lastB (o : Option SetD) : Bool := match o with | some s => !s.2.2 | none => false
theorem lastD_step (l : List SetD) (x : List UInt8) (k : Nat) (hk : k < l.length) : lastD (l.take (k + 1)) x = if (l.getD k zeroSet).1 = x then some (l.getD k zeroSet) else lastD (l.take k) x := by
  unfold lastD
  rw [List.take_succ_eq_append_getElem hk, List.reverse_append]
  have e : l[k] = l.getD k zeroSet := by simp [hk]
  rw [e]
  by_cases h : (l.getD k zeroSet).1 = x
  · simp only [List.reverse_cons, List.reverse_nil, List.nil_append, List.cons_append, List.find?_cons, h, decide_true, if_true]
  · simp only [List.reverse_cons, List.reverse_nil, List.nil_append, List.cons_append, List.find?_cons, h, decide_false, if_false]
theorem lastD_nil (x : List UInt8) : lastD [] x = none := rfl
def RetLast (w : World) (o : Option SetD) (e : Ending) (w' : World) : Prop := ∃ B d, e = .returned (.tuple #[.slice B (lastV o).length d, .bool (lastB o)]) ∧ Bs w' B d (lastV o) ∧ Below w.heap.size w w'
set_option maxRecDepth 100000 in
set_option maxHeartbeats 2000000 in
theorem last_any (A X : Option Addr) (a xc : Nat) (l : List SetD) (x : List UInt8) (w : World) (hs : Lst SetE w (fun _ => False) A a l) (hx : Bs w X xc x) :
    Calls Try.prog 24 #[.slice A l.length a, .slice X x.length xc] w (RetLast w (lastD l x)) := by
  have HS := Lib.hid hs
  have HX := Lib.hid hx
  have h1 := hs.le
  have h2 := hs.max
  clear hs hx
  have HL0 : Hid (lastD l x = lastD (l.take l.length) x) := Lib.hid (by rw [List.take_length])
  generalize hm : l.length = m at *
  have HM := Lib.hid hm
  clear hm
  have w0 : IntKind.i64.wrap ((m : Int) - 1) = (m : Int) - 1 := IntWalk.i64_in _ (by omega)
  go_enter Try.func24, Try.ntmps24
  go_wp2_with fail
  go_loopg [6] m (fun gk i wr => ∃ k : Nat, k ≤ m ∧ gk = k ∧ i = .int .i64 ((k : Int) - 1) ∧ Hid (lastD l x = lastD (l.take k) x) ∧ Hid (Below w.heap.size w wr))
  case atStart => exact ⟨m, Nat.le_refl _, rfl, by first | rfl | simp [w0], HL0, Lib.hid (Below.refl _ _)⟩
  case round =>
    obtain ⟨k, hk, rfl, rfl, HL, HB⟩ := hrel
    clear HL0 w0
    rcases gk with _ | j
    · have i1 : ¬ (0 : Int) ≤ ((0 : Nat) : Int) - 1 := by omega
      go_wp2_with fail
      go_ret2
      have HE : lastD l x = none := by rw [HL.out, List.take_zero]; rfl
      exact ⟨none, 0, by rw [HE]; rfl, by rw [HE]; exact Bs.nil _ _ _, HB.out⟩
    · have ej : ((j + 1 : Nat) : Int) - 1 = (j : Int) := by omega
      rw [ej]
      have i1 : (0 : Int) ≤ (j : Int) := by omega
      have i2 : (j : Int) < (m : Int) := by omega
      obtain ⟨bk, off, A1, a1, B1, b1, rfl, hbk, d0, d1, d2, s1, s2⟩ := HS.out.set j _ (getD_get zeroSet (by rw [HM.out]; omega))
      have HT := Lib.hid (lastD_step l x j (by rw [HM.out]; omega))
      obtain ⟨⟨xk, xv, xg⟩, hx⟩ : ∃ y, l.getD j zeroSet = y := ⟨_, rfl⟩
      rw [hx] at d0 d1 d2 s1 s2 HT
      dsimp only at d0 d1 d2 s1 s2 HT
      have y0 := (HB.out.cell (p := ⟨bk, _, none⟩) hbk).trans d0
      have y1 := (HB.out.cell (p := ⟨bk, _, none⟩) hbk).trans d1
      have y2 := (HB.out.cell (p := ⟨bk, _, none⟩) hbk).trans d2
      have S2 := Lib.hid (s2.1.below HB.out)
      have SB := Lib.hid (Help.sameBytes A1 X a1 xc xk x wr (s1.1.below HB.out) (HX.out.below HB.out))
      clear d0 d1 d2 s1 s2 hx hbk ej
      go_wp2_with fail
      (with_reducible refine SB.out.mono ?_)
      rintro e w1 ⟨nd, rfl, rfl⟩
      by_cases he : xk = x
      · have hd : decide (xk = x) = true := by rw [decide_eq_true_eq]; exact he
        have HE : Hid (lastD l x = some (xk, xv, xg)) := Lib.hid (by rw [HL.out, HT.out, if_pos he])
        clear HT he
        go_wp2_with fail
        go_region_held3 (fun w' => w'.cell? ⟨bk, off + j * 3 + 1, none⟩ = some (.slice B1 xv.length b1) ∧ w'.cell? ⟨bk, off + j * 3 + 2, none⟩ = some (.bool xg)) (go_keep) (fail)
        all_goals
          go_wp2_with fail
          go_ret2
          first
            | exact ⟨B1, b1, by rw [HE.out]; rfl, by rw [HE.out]; exact (S2.out.drewN nd).drewN 1, below_drewN (below_drewN HB.out nd) 1⟩
            | exact ⟨B1, b1, by rw [HE.out]; rfl, by rw [HE.out]; exact S2.out.drewN (nd + 1), below_drewN HB.out (nd + 1)⟩
      · have hd : decide (xk = x) = false := by rw [decide_eq_false_iff_not]; exact he
        have HE : Hid (lastD l x = lastD (l.take j) x) := Lib.hid (by rw [HL.out, HT.out, if_neg he])
        have HB2 := Lib.hid (below_drewN HB.out nd)
        clear HT he
        go_wp2_with fail
        go_roundg j
        case measure => omega
        case rel => exact ⟨j, by omega, rfl, by first | rfl | go_num, HE, HB2⟩
end Go.Proofs.Ytnhfeoniiadjfaa.Lst
/- The two lists of State; its first loop. -/
namespace Go.Proofs.Ytnhfeoniiadjfaa.Lst
open Go.RowKit Go.Proofs.Ytnhfeoniiadjfaa.K Go.Proofs.Ytnhfeoniiadjfaa.Help Go.Proofs.Ytnhfeoniiadjfaa.Pfx Go.Proofs.Ytnhfeoniiadjfaa.Peer
set_option linter.unusedVariables false

section
variable {w2 wr w1 : World} {vp vl v1 : Value} {ps : List PeerD} {ls : List LaneD}
end
theorem blk_new2 (w : World) (q1 q2 : Obj) : ((w.alloc q1).alloc q2).heap[w.heap.size + 1]? = some q2 := by
  have := blk_new (w.alloc q1) q2
  simpa using this
theorem stepK_some (l : List RowD) (s : T3) (k : List UInt8) : stepK l (some s) k = stepO s k (valOf l k) := rfl
end Go.Proofs.Ytnhfeoniiadjfaa.Lst
/- Peers, lanes and a case as they come in. -/
namespace Go.Proofs.Ytnhfeoniiadjfaa.Lst
open Go.ChangeShapes Go.WideShapes Go.ChangeAt Go.RowKit Go.Proofs.Ytnhfeoniiadjfaa.K Go.Proofs.Ytnhfeoniiadjfaa.Help Go.Proofs.Ytnhfeoniiadjfaa.Pfx Go.Proofs.Ytnhfeoniiadjfaa.Peer
set_option linter.unusedVariables false

theorem arr4 {cs : Array Value} (h : cs.size = 4) : ∃ c0 c1 c2 c3, cs = #[c0, c1, c2, c3] := by
  obtain ⟨l⟩ := cs
  match l, h with
  | [c0, c1, c2, c3], _ => exact ⟨c0, c1, c2, c3, rfl⟩
/-- a case: peers, new peers, lanes, new lanes -/
def caseV (A A' B B' : Option Addr) (a a' b b' n n' m m' : Nat) : Value := .agg #[.slice A n a, .slice A' n' a', .slice B m b, .slice B' m' b']
end Go.Proofs.Ytnhfeoniiadjfaa.Lst
/- The walk of rows.Sets. -/
namespace Go.Proofs.Ytnhfeoniiadjfaa.Lst
open Go.RowKit Go.Proofs.Ytnhfeoniiadjfaa.K Go.Proofs.Ytnhfeoniiadjfaa.Help Go.Proofs.Ytnhfeoniiadjfaa.Pfx Go.Proofs.Ytnhfeoniiadjfaa.Peer
set_option linter.unusedVariables false

theorem GOf.has {w : World} {l : List RowD} {rs : List GRow} (h : GOf w l rs) (k : List UInt8) : hasG rs k = hasK l k := by
  rw [Bool.eq_iff_iff, hasG_true, hasK_mem, h.fst]
theorem okPL_nodup {ps : List PeerD} {ls : List LaneD} (h : okPL ps ls = true) : ((rowsPL ps ls).map Prod.fst).Nodup := by
  unfold okPL at h
  rw [Bool.and_eq_true] at h
  exact (twice_nodup _).1 (by simpa using h.2)
theorem rowsPL_key (ps : List PeerD) (ls : List LaneD) : ∀ k, k ∈ (rowsPL ps ls).map Prod.fst → k.length ≤ 33 := by
  intro k hk
  obtain ⟨r, hr, rfl⟩ := List.mem_map.1 hk
  unfold rowsPL at hr
  rcases List.mem_append.1 hr with h | h
  · obtain ⟨p, _, rfl⟩ := List.mem_map.1 h
    unfold rowP
    by_cases hp : peerOk p
    · rw [putPeer_ok hp]; simp [be]
    · rw [putPeer_bad hp]; simp
  · obtain ⟨p, _, rfl⟩ := List.mem_map.1 h
    unfold rowL
    by_cases hp : laneOk p
    · rw [putLane_yes hp]; have := hp.1; simp; omega
    · rw [putLane_no hp]; simp
/-- the sets under way -/
structure S3 (w3 wr : World) (v : Value) (s : List SetD) : Prop where
  o : OwnL SetE 37 wr (fun _ => False) w3.heap.size v s
  b : Below w3.heap.size w3 wr
section
variable {w3 wr w1 : World} {v v1 : Value} {s : List SetD}
theorem S3.start (w3 : World) : S3 w3 w3 (.slice none 0 0) [] := ⟨OwnL.nil _ _ _ _ _, Below.refl _ _⟩
theorem S3.step (h : S3 w3 wr v s) (hb : Below wr.heap.size wr w1) : S3 w3 w1 v s := ⟨h.o.below hb, below_step h.b hb⟩
theorem S3.push (h : S3 w3 wr v s) {x : SetD} (o : OwnL SetE 37 w1 (fun _ => False) w3.heap.size v1 (s ++ [x])) (k : Only wr w1 (fun k => v.ownBlock = some k)) : S3 w3 w1 v1 (s ++ [x]) :=
  ⟨o, below_only h.b k (fun i hi => h.o.base_le hi)⟩
theorem S3.el (h : S3 w3 wr v s) {W1 : World} (hb : Below wr.heap.size wr W1) {A B : Option Addr} {a b : Nat} {key val : List UInt8} {g : Bool} (h1 : Bs W1 A a key) (n1 : Nw wr A) (h2 : Bs w3 B b val) :
    SetE.R W1 (fun k => False ∨ v.ownBlock = some k) [Value.slice A key.length a, .slice B val.length b, .bool g] (key, val, g) := by
  refine ⟨A, a, B, b, rfl, Bs.fresh h1 n1 (fun i hi => hi.elim (fun h => h.elim) (fun e => h.o.lt e)), ?_⟩
  refine ⟨h2.below (below_step h.b hb), fun hl ad e hn => ?_⟩
  have h3 := Bs.blk h2 hl ad e
  have h4 := hn.elim (fun h => h.elim) (fun e => h.o.base_le e)
  omega
end
/-- the same beside a list of keys -/
structure S4 (w3 wr : World) (v : Value) (s : List SetD) (A : Option Addr) (c : Nat) (ks : List (List UInt8)) : Prop where
  s : S3 w3 wr v s
  t : Lst StrE wr (fun k => v.ownBlock = some k) A c ks
section
variable {w3 wr w1 : World} {v v1 : Value} {s : List SetD} {A : Option Addr} {c : Nat} {ks : List (List UInt8)}
theorem S4.start (h : S3 w3 wr v s) (hb : Below wr.heap.size wr w1) (hl : Lst StrE w1 (fun _ => False) A c ks) (hn : Nw wr A) : S4 w3 w1 v s A c ks :=
  ⟨h.step hb, ⟨hl.le, hl.max, fun i x hx => by
    obtain ⟨bk, off, raw, e, hlt, _, hc, hr⟩ := hl.at_ i x hx
    exact ⟨bk, off, raw, e, hlt, fun ho => by have h1 := hn _ e; have h2 := h.o.lt ho; dsimp only at h1; omega, hc, hr⟩⟩⟩
theorem S4.step (h : S4 w3 wr v s A c ks) (hb : Below wr.heap.size wr w1) : S4 w3 w1 v s A c ks := ⟨h.s.step hb, h.t.below hb⟩
theorem S4.push (h : S4 w3 wr v s A c ks) {x : SetD} (o : OwnL SetE 37 w1 (fun _ => False) w3.heap.size v1 (s ++ [x])) (k : Only wr w1 (fun k => v.ownBlock = some k)) (hn : ∀ i, v1.ownBlock = some i → v.ownBlock = some i ∨ wr.heap.size ≤ i) : S4 w3 w1 v1 (s ++ [x]) A c ks :=
  ⟨h.s.push o k, (((h.t.reno (N' := fun k => v.ownBlock = some k ∨ v1.ownBlock = some k) (fun i hi => hi.elim .inl (hn i))).only k (fun i _ hi => .inl hi)).reno (fun i hi => .inl (.inr hi)))⟩
end
section
open Go.Maps
variable {ops : Array Oper} {rest : List Oper} {o : Oper} {a : Act} {Q : Exit → Act → World → Prop} {w : World} {b : Nat} {rs : List GRow}
end
theorem nw_at (w : World) (o : Nat) : Nw w (some ⟨w.heap.size, o, none⟩) := fun ad e => by injection e with e; rw [← e]; exact Nat.le_refl _
noncomputable def progQ (ps ps' : List PeerD) (ls ls' : List LaneD) : QD := if (okPL ps ls && okPL ps' ls') = true then (sortS (rawSets (rowsPL ps ls) (rowsPL ps' ls')), 0) else ([], 114)
theorem progQ_eq (ps ps' : List PeerD) (ls ls' : List LaneD) : progQ ps ps' ls ls' = refSets ps ps' ls ls' := by
  unfold progQ refSets
  by_cases h : (okPL ps ls && okPL ps' ls') = true
  · rw [if_pos h, if_pos h]
    rw [Bool.and_eq_true] at h
    rw [progSets_eq (okPL_nodup h.1) (okPL_nodup h.2)]
  · rw [if_neg h, if_neg h]
end Go.Proofs.Ytnhfeoniiadjfaa.Lst
/- A case's box; fits. -/
namespace Go.Proofs.Ytnhfeoniiadjfaa.Lst
open Go.RowKit Go.Proofs.Ytnhfeoniiadjfaa.K Go.Proofs.Ytnhfeoniiadjfaa.Help Go.Proofs.Ytnhfeoniiadjfaa.Pfx Go.Proofs.Ytnhfeoniiadjfaa.Peer
set_option linter.unusedVariables false

section
variable {w w' w2 : World} {s0 s1 s2 s3 : Value}
end
def FitL (n : Nat) (ps : List PeerD) : Prop := n ≤ 60 → ∀ x, x ∈ ps → x.ps.length ≤ 60
def FitsP (ps ps' : List PeerD) (n n' m m' : Nat) : Prop := n ≤ 60 ∧ n' ≤ 60 ∧ m ≤ 60 ∧ m' ≤ 60 ∧ (∀ x, x ∈ ps → x.ps.length ≤ 60) ∧ (∀ x, x ∈ ps' → x.ps.length ≤ 60)
def RetFit (w : World) (P : Prop) (e : Ending) (w' : World) : Prop := ∃ b : Bool, e = .returned (.bool b) ∧ (b = true → P) ∧ Below w.heap.size w w'
theorem fitL_of {ps : List PeerD} {n k : Nat} (hn : ps.length = n) (h : ∀ i, i < k → (ps.getD i zeroPeer).ps.length ≤ 60) (hk : ¬ (k < n ∧ k < 60)) : FitL n ps := by
  intro h60 x hx
  obtain ⟨i, hi, rfl⟩ := List.mem_iff_getElem.1 hx
  have := h i (by omega)
  simpa [hi] using this
theorem ret_fit {w w' : World} {P : Prop} {b : Bool} (h : b = true → P) (hb : Below w.heap.size w w') : RetFit w P (.returned (.bool b)) w' := ⟨b, rfl, h, hb⟩
end Go.Proofs.Ytnhfeoniiadjfaa.Lst
/- The walk of turned. -/
namespace Go.Proofs.Ytnhfeoniiadjfaa.Lst
open Go.RowKit Go.Proofs.Ytnhfeoniiadjfaa.K Go.Proofs.Ytnhfeoniiadjfaa.Help Go.Proofs.Ytnhfeoniiadjfaa.Pfx Go.Proofs.Ytnhfeoniiadjfaa.Peer
set_option linter.unusedVariables false

def hitB (s : List SetD) (k : List UInt8) : Bool := s.any (fun x => decide (k = x.1))
def keepT (l : List RowD) (s : List SetD) : List RowD := l.filter (fun r => !hitB s r.1)
def doneT (s : List SetD) : List RowD := (s.filter (fun x => !x.2.2)).map (fun x => (x.1, x.2.1))
def turnedL (l : List RowD) (s : List SetD) : List RowD := keepT l s ++ doneT s
theorem hitB_step (s : List SetD) (k : List UInt8) (j : Nat) (hj : j < s.length) : hitB (s.take (j + 1)) k = (hitB (s.take j) k || decide (k = (s.getD j zeroSet).1)) := by
  have e : s.getD j zeroSet = s[j] := by simp [hj]
  rw [List.take_succ_eq_append_getElem hj, e]
  unfold hitB
  rw [List.any_append]
  simp
theorem keepT_step (l : List RowD) (s : List SetD) (k : Nat) (hk : k < l.length) : keepT (l.take (k + 1)) s = keepT (l.take k) s ++ if hitB s (l.getD k zR).1 = true then [] else [l.getD k zR] := by
  have e : l.getD k zR = l[k] := by simp [hk]
  rw [List.take_succ_eq_append_getElem hk, e]
  unfold keepT
  rw [List.filter_append]
  congr 1
  by_cases h : hitB s l[k].1 = true
  · rw [if_pos h]; simp [h]
  · rw [if_neg h]; simp [h]
theorem doneT_step (s : List SetD) (j : Nat) (hj : j < s.length) : doneT (s.take (j + 1)) = doneT (s.take j) ++ if (s.getD j zeroSet).2.2 = true then [] else [((s.getD j zeroSet).1, (s.getD j zeroSet).2.1)] := by
  have e : s.getD j zeroSet = s[j] := by simp [hj]
  rw [List.take_succ_eq_append_getElem hj, e]
  unfold doneT
  rw [List.filter_append, List.map_append]
  congr 1
  by_cases h : s[j].2.2 = true
  · rw [if_pos h]; simp [h]
  · rw [if_neg h]; simp [h]
theorem keepT_len (l : List RowD) (s : List SetD) (k : Nat) : (keepT (l.take k) s).length ≤ k := by
  unfold keepT
  exact Nat.le_trans (List.length_filter_le _ _) (by rw [List.length_take]; omega)
theorem doneT_len (s : List SetD) (k : Nat) : (doneT (s.take k)).length ≤ k := by
  unfold doneT
  rw [List.length_map]
  exact Nat.le_trans (List.length_filter_le _ _) (by rw [List.length_take]; omega)
end Go.Proofs.Ytnhfeoniiadjfaa.Lst
/- The old rows with the sets done are the new rows (plain). -/
namespace Go.Proofs.Ytnhfeoniiadjfaa.Lst
open Go.RowKit Go.Proofs.Ytnhfeoniiadjfaa.K Go.Proofs.Ytnhfeoniiadjfaa.Help Go.Proofs.Ytnhfeoniiadjfaa.Pfx Go.Proofs.Ytnhfeoniiadjfaa.Peer
set_option linter.unusedVariables false

theorem nodup_of_fst {α β : Type} {l : List (α × β)} (h : (l.map Prod.fst).Nodup) : l.Nodup := by
  rw [List.nodup_iff_pairwise_ne] at h ⊢
  rw [List.pairwise_map] at h
  exact h.imp (fun h e => h (by rw [e]))
theorem setsOf_perm (was is_ : List RowD) : (setsOf was is_).Perm (is_.filterMap (fA was) ++ was.filterMap (fB is_)) := by
  rw [setsOf_eq]
  have := (fold_ins ltS_asym ltS_tr (is_.filterMap (fA was) ++ was.filterMap (fB is_)) [] List.Pairwise.nil).2
  simpa using this
theorem setsOf_same {is_ : List RowD} (h : (is_.map Prod.fst).Nodup) : setsOf is_ is_ = [] := by
  rw [setsOf_eq]
  have h1 : is_.filterMap (fA is_) = [] := by
    rw [List.filterMap_eq_nil_iff]
    intro r hr
    unfold fA
    rw [if_pos]
    rw [Bool.and_eq_true]
    exact ⟨hasK_mem.2 (List.mem_map.2 ⟨r, hr, rfl⟩), decide_eq_true (valOf_mem h hr)⟩
  have h2 : is_.filterMap (fB is_) = [] := by
    rw [List.filterMap_eq_nil_iff]
    intro r hr
    unfold fB
    rw [if_pos (hasK_mem.2 (List.mem_map.2 ⟨r, hr, rfl⟩))]
  rw [h1, h2]
  rfl
theorem hitB_iff {s : List SetD} {k : List UInt8} : hitB s k = true ↔ k ∈ s.map Prod.fst := by
  unfold hitB
  rw [List.any_eq_true, List.mem_map]
  constructor
  · rintro ⟨x, h1, h2⟩; exact ⟨x, h1, (of_decide_eq_true h2).symm⟩
  · rintro ⟨x, h1, h2⟩; exact ⟨x, h1, decide_eq_true h2.symm⟩
theorem hit_iff {was is_ : List RowD} (h1 : (was.map Prod.fst).Nodup) (h2 : (is_.map Prod.fst).Nodup) {r : RowD} (hr : r ∈ was) : hitB (setsOf was is_) r.1 = true ↔ r ∉ is_ := by
  rw [hitB_iff, ((setsOf_perm was is_).map Prod.fst).mem_iff, List.map_append, List.mem_append]
  constructor
  · rintro (h | h) hm
    · obtain ⟨s, hs, e⟩ := List.mem_map.1 h
      obtain ⟨q, hq, eq⟩ := List.mem_filterMap.1 hs
      obtain ⟨e1, e2⟩ := fA_some eq
      rw [e1] at e
      have : q = r := one_fst h2 hq hm e
      subst this
      exact e2 ⟨hasK_mem.2 (List.mem_map.2 ⟨q, hr, rfl⟩), valOf_mem h1 hr⟩
    · obtain ⟨s, hs, e⟩ := List.mem_map.1 h
      obtain ⟨q, hq, eq⟩ := List.mem_filterMap.1 hs
      obtain ⟨e1, e2⟩ := fB_some eq
      rw [e1] at e
      have : q = r := one_fst h1 hq hr e
      subst this
      rw [hasK_mem.2 (List.mem_map.2 ⟨q, hm, rfl⟩)] at e2
      cases e2
  · intro hm
    cases hk : hasK is_ r.1 with
    | false =>
      refine .inr (List.mem_map.2 ⟨(r.1, [], true), List.mem_filterMap.2 ⟨r, hr, ?_⟩, rfl⟩)
      unfold fB
      rw [if_neg (by rw [hk]; simp)]
    | true =>
      obtain ⟨q, hq, e⟩ := List.mem_map.1 (hasK_mem.1 hk)
      refine .inl (List.mem_map.2 ⟨(q.1, q.2, false), List.mem_filterMap.2 ⟨q, hq, ?_⟩, e⟩)
      unfold fA
      rw [if_neg]
      intro hb
      rw [Bool.and_eq_true] at hb
      have hv := of_decide_eq_true hb.2
      rw [e, valOf_mem h1 hr] at hv
      exact hm (by have : q = r := Prod.ext e hv.symm
                   rwa [this] at hq)
theorem done_A (was : List RowD) : ∀ is_ : List RowD, doneT (is_.filterMap (fA was)) = is_.filter (fun r => !(hasK was r.1 && decide (valOf was r.1 = r.2)))
  | [] => rfl
  | r :: t => by
    rw [List.filterMap_cons, List.filter_cons]
    have ih := done_A was t
    unfold fA at ih ⊢
    by_cases h : (hasK was r.1 && decide (valOf was r.1 = r.2)) = true
    · rw [if_pos h, h]
      exact ih
    · rw [if_neg h]
      have h' : (hasK was r.1 && decide (valOf was r.1 = r.2)) = false := by simpa using h
      rw [h']
      unfold doneT at ih ⊢
      dsimp only
      rw [List.filter_cons]
      simp only [Bool.not_false, if_true, List.map_cons]
      rw [ih]
theorem done_B (is_ : List RowD) : ∀ was : List RowD, doneT (was.filterMap (fB is_)) = []
  | [] => rfl
  | r :: t => by
    rw [List.filterMap_cons]
    have ih := done_B is_ t
    unfold fB at ih ⊢
    by_cases h : hasK is_ r.1 = true
    · rw [if_pos h]; exact ih
    · rw [if_neg h]
      unfold doneT at ih ⊢
      dsimp only
      rw [List.filter_cons]
      simp
theorem turned_perm {was is_ : List RowD} (h1 : (was.map Prod.fst).Nodup) (h2 : (is_.map Prod.fst).Nodup) : (turnedL was (setsOf was is_)).Perm is_ := by
  unfold turnedL
  have hd : (doneT (setsOf was is_)).Perm (is_.filter (fun r => !(hasK was r.1 && decide (valOf was r.1 = r.2)))) := by
    have := (((setsOf_perm was is_).filter (fun x => !x.2.2)).map (fun x => (x.1, x.2.1)))
    unfold doneT
    refine this.trans ?_
    rw [List.filter_append, List.map_append]
    have ea := done_A was is_
    have eb := done_B is_ was
    unfold doneT at ea eb
    rw [ea, eb, List.append_nil]
  have hk : (keepT was (setsOf was is_)).Perm (is_.filter (fun r => hasK was r.1 && decide (valOf was r.1 = r.2))) := by
    refine (List.perm_ext_iff_of_nodup ((nodup_of_fst h1).sublist List.filter_sublist) ((nodup_of_fst h2).sublist List.filter_sublist)).2 (fun r => ?_)
    rw [List.mem_filter, List.mem_filter]
    constructor
    · rintro ⟨hr, hn⟩
      have hm : r ∈ is_ := by
        cases Classical.em (r ∈ is_) with
        | inl h => exact h
        | inr h => rw [(hit_iff h1 h2 hr).2 h] at hn; cases hn
      refine ⟨hm, ?_⟩
      rw [Bool.and_eq_true]
      exact ⟨hasK_mem.2 (List.mem_map.2 ⟨r, hr, rfl⟩), decide_eq_true (valOf_mem h1 hr)⟩
    · rintro ⟨hm, hb⟩
      rw [Bool.and_eq_true] at hb
      obtain ⟨q, hq, e⟩ := List.mem_map.1 (hasK_mem.1 hb.1)
      have hv := of_decide_eq_true hb.2
      rw [← e, valOf_mem h1 hq] at hv
      have : q = r := Prod.ext e hv
      subst this
      refine ⟨hq, ?_⟩
      cases hh : hitB (setsOf was is_) q.1 with
      | false => rfl
      | true => exact absurd hm ((hit_iff h1 h2 hq).1 hh)
  exact (hk.append hd).trans (List.filter_append_perm _ _)
end Go.Proofs.Ytnhfeoniiadjfaa.Lst
/- may and fit of the law. -/
namespace Go.Proofs.Ytnhfeoniiadjfaa.Lst
open Go.RowKit Go.Proofs.Ytnhfeoniiadjfaa.K Go.Proofs.Ytnhfeoniiadjfaa.Help Go.Proofs.Ytnhfeoniiadjfaa.Pfx Go.Proofs.Ytnhfeoniiadjfaa.Peer
set_option linter.unusedVariables false

set_option maxRecDepth 100000 in
set_option maxHeartbeats 1000000 in
theorem lawMay_any (A B : Option Addr) (nk a nv b : Nat) (g : Bool) (w : World) :
    Calls Try.prog 53 #[.agg #[.slice A nk a, .slice B nv b, .bool g]] w (Pure w (.bool (mayN nk nv g))) := by
  have HB := Lib.hid (below_alloc (Below.refl w.heap.size w) (.cells #[.slice A nk a, .slice B nv b, .bool g] 37))
  have hx := blk_new w (.cells #[.slice A nk a, .slice B nv b, .bool g] 37)
  have x0 := (blk_cell hx 0).trans (b := some (Value.slice A nk a)) rfl
  have x1 := (blk_cell hx 1).trans (b := some (Value.slice B nv b)) rfl
  have x2 := (blk_cell hx 2).trans (b := some (Value.bool g)) rfl
  clear hx
  have fin : ∀ r : Bool, mayN nk nv g = r → Hid (Pure w (.bool (mayN nk nv g)) (.returned (.bool r)) (w.alloc (.cells #[.slice A nk a, .slice B nv b, .bool g] 37))) := fun r e => by rw [e]; exact ⟨rfl, HB.out⟩
  have FT := Lib.hid (fun h : mayN nk nv g = true => (fin true h).out)
  have FF := Lib.hid (fun h : mayN nk nv g = false => (fin false h).out)
  clear fin
  by_cases h1 : 1 ≤ nk
  · have n1 : (1 : Int) ≤ (nk : Int) := by omega
    by_cases h2 : nk ≤ 40
    · have n2 : (nk : Int) ≤ 40 := by omega
      by_cases h3 : nv ≤ 480
      · have n3 : (nv : Int) ≤ 480 := by omega
        cases g
        · have R := Lib.hid (FT.out (mayN_true (.inl rfl) h1 h2 h3))
          clear FT FF h1 h2 h3
          go_enter Try.func53, Try.ntmps53
          go_wp2_with fail
          go_ret
          exact R.out
        · rcases Nat.eq_zero_or_pos nv with h0 | h0
          · have R := Lib.hid (FT.out (mayN_true (.inr h0) h1 h2 h3))
            have e0 : (nv : Int) = 0 := by omega
            clear FT FF h1 h2 h3 h0
            go_enter Try.func53, Try.ntmps53
            go_wp2_with fail
            go_ret
            exact R.out
          · have R := Lib.hid (FF.out (mayN_false (.inl ⟨rfl, h0⟩)))
            have e0 : ((nv : Int) == 0) = false := by rw [beq_eq_false_iff_ne]; omega
            have e1 : (nv == 0) = false := by rw [beq_eq_false_iff_ne]; omega
            have e2 : decide (nv = 0) = false := by rw [decide_eq_false_iff_not]; omega
            clear FT FF h1 h2 h3 h0
            go_enter Try.func53, Try.ntmps53
            go_wp2_with fail
            go_ret
            exact R.out
      · have n3 : decide ((nv : Int) ≤ 480) = false := by rw [decide_eq_false_iff_not]; omega
        have R := Lib.hid (FF.out (mayN_false (.inr (by omega))))
        clear FT FF h1 h2 h3
        go_enter Try.func53, Try.ntmps53
        go_wp2_with fail
        go_ret
        exact R.out
    · have n2 : decide ((nk : Int) ≤ 40) = false := by rw [decide_eq_false_iff_not]; omega
      have R := Lib.hid (FF.out (mayN_false (.inr (by omega))))
      clear FT FF h1 h2
      go_enter Try.func53, Try.ntmps53
      go_wp2_with fail
      go_ret
      exact R.out
  · have n1 : decide ((1 : Int) ≤ (nk : Int)) = false := by rw [decide_eq_false_iff_not]; omega
    have R := Lib.hid (FF.out (mayN_false (.inr (by omega))))
    clear FT FF h1
    go_enter Try.func53, Try.ntmps53
    go_wp2_with fail
    go_ret
    exact R.out
end Go.Proofs.Ytnhfeoniiadjfaa.Lst
/- fit of the law. -/
namespace Go.Proofs.Ytnhfeoniiadjfaa.Lst
open Go.RowKit Go.Proofs.Ytnhfeoniiadjfaa.K Go.Proofs.Ytnhfeoniiadjfaa.Help Go.Proofs.Ytnhfeoniiadjfaa.Pfx Go.Proofs.Ytnhfeoniiadjfaa.Peer
set_option linter.unusedVariables false

def fitD (l : List SetD) (n : Nat) : List SetD := (l.filter mayB).take n
theorem take_snoc (l : List SetD) (k : Nat) (hk : k < l.length) : (l.take (k + 1)).filter mayB = (l.take k).filter mayB ++ (if mayB (l.getD k zeroSet) then [l.getD k zeroSet] else []) := by
  rw [List.take_succ_eq_append_getElem hk, List.filter_append]
  have e : l[k] = l.getD k zeroSet := by simp [hk]
  rw [e]
  cases h : mayB (l.getD k zeroSet) <;> simp only [List.filter_cons, List.filter_nil, h] <;> rfl
theorem fit_end (l : List SetD) (k n : Nat) (h : ((l.take k).filter mayB).length ≤ n) (he : l.length ≤ k ∨ n ≤ ((l.take k).filter mayB).length) : fitD l n = (l.take k).filter mayB := by
  unfold fitD
  have e : l.filter mayB = (l.take k).filter mayB ++ (l.drop k).filter mayB := by rw [← List.filter_append, List.take_append_drop]
  rcases he with he | he
  · rw [List.take_of_length_le he] at h ⊢
    exact List.take_of_length_le h
  · rw [e, List.take_append_of_le_length he, List.take_of_length_le h]
def RetFt (w : World) (l : List SetD) (e : Ending) (w' : World) : Prop := ∃ A c, e = .returned (.slice A l.length c) ∧ OwnL SetE 37 w' (fun _ => False) w.heap.size (.slice A l.length c) l ∧ Below w.heap.size w w'
set_option maxRecDepth 100000 in
set_option maxHeartbeats 4000000 in
theorem fit_any (A : Option Addr) (a : Nat) (l : List SetD) (n : Nat) (w : World) (hs : Lst SetE w (fun _ => False) A a l) (hn : n ≤ 100000) :
    Calls Try.prog 19 #[.slice A l.length a, .int .i64 (n : Int)] w (RetFt w (fitD l n)) := by
  have HS := Lib.hid hs
  have h1 := hs.le
  have h2 := hs.max
  have HN := Lib.hid hn
  clear hs hn
  generalize hm : l.length = m at *
  have HM := Lib.hid hm
  clear hm
  go_enter Try.func19, Try.ntmps19
  go_wp2_with fail
  go_loopg [5, 6] m (fun gk v i wr => ∃ k : Nat, k ≤ m ∧ gk = m - k ∧ i = .int .i64 (k : Int) ∧ Hid (OwnL SetE 37 wr (fun _ => False) w.heap.size v ((l.take k).filter mayB)) ∧ Hid (((l.take k).filter mayB).length ≤ n) ∧ Hid (Below w.heap.size w wr))
  case atStart => exact ⟨0, by omega, rfl, rfl, Lib.hid (by rw [List.take_zero]; exact OwnL.nil _ _ _ _ _), Lib.hid (by simp), Lib.hid (Below.refl _ _)⟩
  case round =>
    obtain ⟨k, hk, rfl, rfl, HO, HA, HB⟩ := hrel
    obtain ⟨A0, c0, rfl⟩ := HO.out.slice
    have i0 : (0 : Int) ≤ (k : Int) := by omega
    generalize hac : (l.take k).filter mayB = acc at *
    have HAC := Lib.hid hac
    clear hac
    generalize hma : acc.length = ma at *
    have HMA := Lib.hid hma
    clear hma
    by_cases hlt : k < m
    · have i1 : (k : Int) < (m : Int) := by omega
      by_cases hcn : ma < n
      · have i2 : (ma : Int) < (n : Int) := by omega
        obtain ⟨bk, off, A1, a1, B1, b1, rfl, hbk, d0, d1, d2, s1, s2⟩ := HS.out.set k _ (getD_get zeroSet (by rw [HM.out]; exact hlt))
        have HT := Lib.hid (take_snoc l k (by rw [HM.out]; exact hlt))
        rw [HAC.out] at HT
        obtain ⟨⟨xk, xv, xg⟩, hx⟩ : ∃ y, l.getD k zeroSet = y := ⟨_, rfl⟩
        rw [hx] at d0 d1 d2 s1 s2 HT
        dsimp only at d0 d1 d2 s1 s2
        have MY := Lib.hid (lawMay_any A1 B1 xk.length a1 xv.length b1 xg wr)
        have HMB : Hid (mayB (xk, xv, xg) = mayN xk.length xv.length xg) := Lib.hid (mayB_eq _)
        have y0 := (HB.out.cell (p := ⟨bk, _, none⟩) hbk).trans d0
        have y1 := (HB.out.cell (p := ⟨bk, _, none⟩) hbk).trans d1
        have y2 := (HB.out.cell (p := ⟨bk, _, none⟩) hbk).trans d2
        have D0 := Lib.hid d0
        have D1 := Lib.hid d1
        have D2 := Lib.hid d2
        have S1 := Lib.hid s1
        have S2 := Lib.hid s2
        have HBK := Lib.hid hbk
        clear d0 d1 d2 s1 s2 hx hbk
        go_wp2_with fail
        (with_reducible refine MY.out.mono ?_)
        rintro e w1 ⟨rfl, hb1⟩
        cases hg : mayN xk.length xv.length xg
        · rw [HMB.out, hg] at HT
          have HT2 : Hid ((l.take (k + 1)).filter mayB = acc) := Lib.hid (by rw [HT.out]; simp)
          have O2 := Lib.hid (HO.out.below hb1)
          have B2 := Lib.hid (below_step HB.out hb1)
          clear hb1 HT y0 y1 y2 MY HMB
          go_wp2_with fail
          go_roundg (m - (k + 1))
          case measure => omega
          case rel => exact ⟨k + 1, by omega, rfl, by go_num, by rw [HT2.out]; exact O2, by rw [HT2.out, HMA.out]; exact HA, B2⟩
        · rw [HMB.out, hg] at HT
          have HT2 : Hid ((l.take (k + 1)).filter mayB = acc ++ [(xk, xv, xg)]) := Lib.hid (by rw [HT.out]; simp)
          have z0 := ((below_step HB.out hb1).cell (p := ⟨bk, _, none⟩) HBK.out).trans D0.out
          have z1 := ((below_step HB.out hb1).cell (p := ⟨bk, _, none⟩) HBK.out).trans D1.out
          have z2 := ((below_step HB.out hb1).cell (p := ⟨bk, _, none⟩) HBK.out).trans D2.out
          have hb2 := below_alloc (Below.refl w1.heap.size w1) (.cells #[.slice A1 xk.length a1, .slice B1 xv.length b1, .bool xg] 37)
          have O2 := Lib.hid ((HO.out.below hb1).below hb2)
          have X2 := Lib.hid (blk_new w1 (.cells #[.slice A1 xk.length a1, .slice B1 xv.length b1, .bool xg] 37))
          have B2 := Lib.hid (below_step (below_step HB.out hb1) hb2)
          have E2 : Hid (SetE.R (w1.alloc (.cells #[.slice A1 xk.length a1, .slice B1 xv.length b1, .bool xg] 37)) (fun i => (fun _ => False) i ∨ (Value.slice A0 ma c0).ownBlock = some i) [.slice A1 xk.length a1, .slice B1 xv.length b1, .bool xg] (xk, xv, xg)) :=
            Lib.hid ⟨A1, a1, B1, b1, rfl, (S1.out.reno (fun i hi => hi.elim False.elim (fun h => .inr (HO.out.base_le h)))).below B2.out, (S2.out.reno (fun i hi => hi.elim False.elim (fun h => .inr (HO.out.base_le h)))).below B2.out⟩
          clear hb1 hb2 HT y0 y1 y2 MY HMB
          go_wp2_with (at_builtin; refine push (E := SetE) 37 22 _ 56 rfl (.tmp 24) (.tmp 29) rfl Try.underlying22 info_set rfl (by decide) (by decide) (by decide) (.slice A0 ma c0) acc (xk, xv, xg) [.slice A1 xk.length a1, .slice B1 xv.length b1, .bool xg] w1.heap.size 1 rfl rfl O2.out X2.out E2.out B2.out.size (by have := HMA.out; have := HN.out; omega) ?_ (fun _ h => h.elim); intro A5 c5 w5 o5 k5 n5; rw [HMA.out] at o5 n5 ⊢; have O5 := Lib.hid o5; have B5 := Lib.hid (below_only B2.out k5 (fun i hi => O2.out.base_le hi)); clear o5 k5 n5)
          go_roundg (m - (k + 1))
          case measure => omega
          case rel => exact ⟨k + 1, by omega, rfl, by go_num, by rw [HT2.out]; exact O5, Lib.hid (by rw [HT2.out, List.length_append, HMA.out]; exact hcn), B5⟩
      · have i2 : ¬ (ma : Int) < (n : Int) := by omega
        have FE := Lib.hid (fit_end l k n (by rw [HAC.out, HMA.out]; exact HA.out) (.inr (by rw [HAC.out, HMA.out]; omega)))
        go_wp2_with fail
        go_ret
        exact ⟨A0, c0, by rw [FE.out, HAC.out, HMA.out]; rfl, by rw [FE.out, HAC.out, HMA.out]; exact HO.out, HB.out⟩
    · obtain rfl : k = m := by omega
      have i1 : ¬ (k : Int) < (k : Int) := by omega
      have FE := Lib.hid (fit_end l k n (by rw [HAC.out, HMA.out]; exact HA.out) (.inl (by rw [HM.out]; exact Nat.le_refl _)))
      go_wp2_with fail
      go_ret
      exact ⟨A0, c0, by rw [FE.out, HAC.out, HMA.out]; rfl, by rw [FE.out, HAC.out, HMA.out]; exact HO.out, HB.out⟩
end Go.Proofs.Ytnhfeoniiadjfaa.Lst
/- Tables, plain: what the last set of a key says; the changes that turn one table into another; a step that meets every row. -/
namespace Go.Proofs.Ytnhfeoniiadjfaa.Lst
open Go.RowKit Go.Proofs.Ytnhfeoniiadjfaa.K Go.Proofs.Ytnhfeoniiadjfaa.Help Go.Proofs.Ytnhfeoniiadjfaa.Pfx Go.Proofs.Ytnhfeoniiadjfaa.Peer
set_option linter.unusedVariables false

theorem appL_app (l : List RowD) (a b : List SetD) : appL l (a ++ b) = appL (appL l a) b := by unfold appL; rw [List.foldl_append]
theorem lastD_snoc (l : List SetD) (s : SetD) (x : List UInt8) : lastD (l ++ [s]) x = if s.1 = x then some s else lastD l x := by
  unfold lastD
  rw [List.reverse_append]
  by_cases h : s.1 = x
  · simp only [List.reverse_cons, List.reverse_nil, List.nil_append, List.cons_append, List.find?_cons, h, decide_true, if_true]
  · simp only [List.reverse_cons, List.reverse_nil, List.nil_append, List.cons_append, List.find?_cons, h, decide_false, if_false]
theorem mem_appS {l : List RowD} {s : SetD} {k v : List UInt8} : (k, v) ∈ appS l s ↔ s = (k, v, false) ∨ ((k, v) ∈ l ∧ k ≠ s.1) := by
  obtain ⟨a, b, g⟩ := s
  unfold appS
  cases g
  · rw [if_neg (by simp), mem_setR]
    constructor
    · rintro (h | h)
      · injection h with h1 h2; subst h1; subst h2; exact .inl rfl
      · exact .inr h
    · rintro (h | h)
      · injection h with h1 h2; injection h2 with h2 _; subst h1; subst h2; exact .inl rfl
      · exact .inr h
  · rw [if_pos rfl, mem_delR]
    constructor
    · exact .inr
    · rintro (h | h)
      · injection h with _ h; injection h with _ h; cases h
      · exact h
/-- sets that agree on each key -/
def One (ss : List SetD) : Prop := ∀ s, s ∈ ss → ∀ q, q ∈ ss → s.1 = q.1 → s = q
theorem One.tail {s : SetD} {t : List SetD} (h : One (s :: t)) : One t := fun a ha b hb => h a (List.mem_cons_of_mem _ ha) b (List.mem_cons_of_mem _ hb)
theorem one_nodup {ss : List SetD} (h : (ss.map Prod.fst).Nodup) : One ss := fun _ hs _ hq e => one_fst h hs hq e
theorem mem_appL : ∀ {ss : List SetD} {l : List RowD} {k v : List UInt8}, One ss → ((k, v) ∈ appL l ss ↔ (k, v, false) ∈ ss ∨ ((k, v) ∈ l ∧ k ∉ ss.map Prod.fst))
  | [], l, k, v, _ => by simp [appL]
  | s :: t, l, k, v, h => by
    have ih := mem_appL (ss := t) (l := appS l s) (k := k) (v := v) h.tail
    show (k, v) ∈ appL (appS l s) t ↔ _
    rw [ih, mem_appS, List.mem_cons, List.map_cons, List.mem_cons]
    constructor
    · rintro (h1 | ⟨h1 | ⟨h1, h2⟩, h3⟩)
      · exact .inl (.inr h1)
      · exact .inl (.inl h1.symm)
      · exact .inr ⟨h1, fun h => h.elim h2 h3⟩
    · rintro ((h1 | h1) | ⟨h1, h2⟩)
      · by_cases hk : k ∈ t.map Prod.fst
        · obtain ⟨q, hq, e⟩ := List.mem_map.1 hk
          have := h s List.mem_cons_self q (List.mem_cons_of_mem _ hq) (by rw [← h1, e])
          refine .inl ?_
          rw [h1, this]
          exact hq
        · exact .inr ⟨.inl h1.symm, hk⟩
      · exact .inl h1
      · exact .inr ⟨.inr ⟨h1, fun e => h2 (.inl e)⟩, fun e => h2 (.inr e)⟩
/-- the rows that a table has are what the last set of each key says -/
theorem mem_last : ∀ (n : Nat) {ss : List SetD} {k v : List UInt8}, ss.length = n → ((k, v) ∈ appL [] ss ↔ ∃ s, lastD ss k = some s ∧ s.2.2 = false ∧ s.2.1 = v)
  | 0, ss, k, v, hn => by
    have : ss = [] := List.length_eq_zero_iff.1 hn
    subst this
    simp [appL, lastD]
  | n + 1, ss, k, v, hn => by
    obtain ⟨t, s, rfl⟩ : ∃ t s, ss = t ++ [s] := ⟨ss.dropLast, ss.getLast (by intro e; rw [e] at hn; simp at hn), (List.dropLast_concat_getLast _).symm⟩
    have ht : t.length = n := by simpa using hn
    rw [appL_app, lastD_snoc]
    show (k, v) ∈ appS (appL [] t) s ↔ _
    rw [mem_appS]
    by_cases h : s.1 = k
    · rw [if_pos h]
      constructor
      · rintro (h1 | h1)
        · exact ⟨s, rfl, by rw [h1], by rw [h1]⟩
        · exact absurd h.symm h1.2
      · rintro ⟨q, h1, h2, h3⟩
        injection h1 with h1
        subst h1
        obtain ⟨a, b, g⟩ := s
        dsimp only at h h2 h3
        subst h; subst h2; subst h3
        exact .inl rfl
    · rw [if_neg h, ← mem_last n ht]
      constructor
      · rintro (h1 | h1)
        · exact absurd (by rw [h1]) h
        · exact h1.1
      · exact fun h1 => .inr ⟨h1, fun e => h e.symm⟩
theorem appL_srt (ss : List SetD) : Srt (appL [] ss) := Srt.appL ss srt_nil
theorem has_last (ss : List SetD) (k : List UInt8) : hasK (appL [] ss) k = lastB (lastD ss k) := by
  rw [Bool.eq_iff_iff, hasK_mem, List.mem_map]
  constructor
  · rintro ⟨⟨a, v⟩, h, rfl⟩
    obtain ⟨s, h1, h2, -⟩ := (mem_last _ rfl).1 h
    rw [h1]
    simp [lastB, h2]
  · intro h
    cases e : lastD ss k with
    | none => rw [e] at h; simp [lastB] at h
    | some s =>
      rw [e] at h
      exact ⟨(k, s.2.1), (mem_last _ rfl).2 ⟨s, e, by simpa [lastB] using h, rfl⟩, rfl⟩
theorem val_last (ss : List SetD) (k : List UInt8) (h : hasK (appL [] ss) k = true) : valOf (appL [] ss) k = lastV (lastD ss k) := by
  obtain ⟨s, h1, -, h2⟩ := (mem_last _ rfl).1 (mem_val (appL_srt ss).nodup h)
  rw [h1, ← h2]
  rfl
theorem last_row (ss : List SetD) {r : RowD} (hr : r ∈ appL [] ss) : lastV (lastD ss r.1) = r.2 ∧ lastB (lastD ss r.1) = true ∧ valOf (appL [] ss) r.1 = r.2 ∧ hasK (appL [] ss) r.1 = true := by
  have h1 : hasK (appL [] ss) r.1 = true := hasK_mem.2 (List.mem_map.2 ⟨r, hr, rfl⟩)
  have h2 := valOf_mem (appL_srt ss).nodup hr
  exact ⟨(val_last ss r.1 h1).symm.trans h2, (has_last ss r.1).symm.trans h1, h2, h1⟩
/-! a step that meets every row -/
theorem bezout : ∀ (n a b : Nat), a ≤ n → ∃ x y : Int, (a : Int) * x + b * y = (Nat.gcd a b : Nat)
  | 0, a, b, h => by
    have h0 : a = 0 := by omega
    subst h0
    exact ⟨0, 1, by simp⟩
  | n + 1, a, b, h => by
    rcases Nat.eq_zero_or_pos a with h0 | h0
    · subst h0; exact ⟨0, 1, by simp⟩
    · obtain ⟨x, y, e⟩ := bezout n (b % a) a (by have := Nat.mod_lt b h0; omega)
      refine ⟨y - (b / a : Nat) * x, x, ?_⟩
      rw [Nat.gcd_rec, ← e]
      have h1 : ((b % a : Nat) : Int) = b - (a : Int) * (b / a : Nat) := by
        have h2 := Nat.mod_add_div b a
        have h3 : (b : Int) = ((b % a : Nat) : Int) + (a : Int) * ((b / a : Nat) : Int) := by rw [← Int.natCast_mul, ← Int.natCast_add, h2]
        omega
      rw [h1, Int.mul_sub, Int.sub_mul, Int.mul_assoc]
      omega
theorem meets {n b : Nat} (f j : Nat) (hb : Nat.gcd b n = 1) (hj : j < n) : ∃ i, i < n ∧ (f + i * b) % n = j := by
  obtain ⟨x, y, e⟩ := bezout b b n (Nat.le_refl _)
  rw [hb] at e
  have hn : (0 : Int) < n := by omega
  have hn' : (n : Int) ≠ 0 := by omega
  have i0 := Int.emod_nonneg (((j : Int) - f) * x) hn'
  have i1 := Int.emod_lt_of_pos (((j : Int) - f) * x) hn
  obtain ⟨i, hi⟩ := Int.eq_ofNat_of_zero_le i0
  refine ⟨i, by omega, ?_⟩
  have h1 : (((f + i * b) % n : Nat) : Int) = (j : Int) % n := by
    rw [Int.natCast_emod, Int.natCast_add, Int.natCast_mul]
    have hi2 : (i : Int) = ((j : Int) - f) * x % n := hi.symm
    rw [hi2]
    rw [Int.add_emod, Int.mul_emod, Int.emod_emod_of_dvd _ (Int.dvd_refl _), ← Int.mul_emod, ← Int.add_emod]
    have h2 : (f : Int) + ((j : Int) - f) * x * b = j + n * (-(((j : Int) - f) * y)) := by
      have h3 : ((j : Int) - f) * ((b : Int) * x + n * y) = (j : Int) - f := by rw [e]; simp
      rw [Int.mul_add] at h3
      have h4 : ((j : Int) - f) * ((b : Int) * x) = ((j : Int) - f) * x * b := by rw [Int.mul_assoc, Int.mul_comm (b : Int) x]
      have h5 : ((j : Int) - f) * ((n : Int) * y) = n * (((j : Int) - f) * y) := by rw [← Int.mul_assoc, Int.mul_comm _ (n : Int), Int.mul_assoc]
      rw [h4, h5] at h3
      rw [Int.mul_neg]
      omega
    rw [h2, Int.add_mul_emod_self_left]
  rw [← Int.natCast_emod, Int.ofNat_inj, Nat.mod_eq_of_lt hj] at h1
  exact h1
def turnD (l : List RowD) (f b n : Nat) : List SetD := (List.range n).map (fun i => ((l.getD ((f + i * b) % l.length) zR).1, (l.getD ((f + i * b) % l.length) zR).2, false))
theorem turnD_step (l : List RowD) (f b n : Nat) : turnD l f b (n + 1) = turnD l f b n ++ [((l.getD ((f + n * b) % l.length) zR).1, (l.getD ((f + n * b) % l.length) zR).2, false)] := by
  unfold turnD
  rw [List.range_succ, List.map_append]
  rfl
theorem mem_turnD {l : List RowD} {f b : Nat} (hb : Nat.gcd b l.length = 1) {s : SetD} : s ∈ turnD l f b l.length ↔ ∃ r, r ∈ l ∧ s = (r.1, r.2, false) := by
  unfold turnD
  rw [List.mem_map]
  constructor
  · rintro ⟨i, hi, rfl⟩
    have hl : 0 < l.length := by have := List.mem_range.1 hi; omega
    have hm := Nat.mod_lt (f + i * b) hl
    refine ⟨l.getD ((f + i * b) % l.length) zR, ?_, rfl⟩
    rw [show l.getD ((f + i * b) % l.length) zR = l[(f + i * b) % l.length] by simp [hm]]
    exact List.getElem_mem _
  · rintro ⟨r, hr, rfl⟩
    obtain ⟨j, hj, rfl⟩ := List.mem_iff_getElem.1 hr
    obtain ⟨i, hi, e⟩ := meets f j hb hj
    refine ⟨i, List.mem_range.2 hi, ?_⟩
    rw [e, show l.getD j zR = l[j] by simp [hj]]
theorem turned_app {l : List RowD} (hs : Srt l) {f b : Nat} (hb : Nat.gcd b l.length = 1) : appL [] (turnD l f b l.length) = l := by
  have ho : One (turnD l f b l.length) := fun s h1 q h2 e => by
    obtain ⟨r, hr, rfl⟩ := (mem_turnD hb).1 h1
    obtain ⟨t, ht, rfl⟩ := (mem_turnD hb).1 h2
    have : r = t := one_fst hs.nodup hr ht e
    rw [this]
  refine Srt.ext (appL_srt _) hs (fun x => ?_)
  obtain ⟨k, v⟩ := x
  rw [mem_appL ho, mem_turnD hb]
  constructor
  · rintro (⟨r, hr, e⟩ | ⟨h, _⟩)
    · injection e with e1 e2
      injection e2 with e2 _
      obtain ⟨a, c⟩ := r
      dsimp only at e1 e2
      rw [e1, e2]
      exact hr
    · cases h
  · exact fun h => .inl ⟨(k, v), h, rfl⟩
/-! rows that may be -/
def RMay (l : List RowD) : Prop := ∀ r, r ∈ l → mayB (r.1, r.2, false) = true
theorem rmay_nil : RMay [] := fun r h => by cases h
theorem mayB_iff (s : SetD) : mayB s = true ↔ (s.2.2 = true → s.2.1.length = 0) ∧ 1 ≤ s.1.length ∧ s.1.length ≤ 40 ∧ s.2.1.length ≤ 480 := by
  obtain ⟨a, b, g⟩ := s
  unfold mayB
  cases g <;> simp <;> omega
theorem RMay.app {l : List RowD} (h : RMay l) {s : SetD} (hs : mayB s = true) : RMay (appS l s) := by
  rintro ⟨k, v⟩ hr
  rcases mem_appS.1 hr with rfl | h1
  · exact hs
  · exact h _ h1.1
theorem rmay_appL : ∀ {ss : List SetD} {l : List RowD}, RMay l → ss.all mayB = true → RMay (appL l ss)
  | [], _, h, _ => h
  | s :: t, l, h, hs => by
    rw [List.all_cons, Bool.and_eq_true] at hs
    exact rmay_appL (l := appS l s) (h.app hs.1) hs.2
theorem turnD_may {l : List RowD} (h : RMay l) {f b : Nat} (hb : Nat.gcd b l.length = 1) : (turnD l f b l.length).all mayB = true := by
  rw [List.all_eq_true]
  intro s hs
  obtain ⟨r, hr, rfl⟩ := (mem_turnD hb).1 hs
  exact h r hr
/-! what is unlike -/
theorem setsOf_mem {was is_ : List RowD} {s : SetD} : s ∈ setsOf was is_ ↔ (∃ r, r ∈ is_ ∧ fA was r = some s) ∨ (∃ r, r ∈ was ∧ fB is_ r = some s) := by
  rw [(setsOf_perm was is_).mem_iff, List.mem_append, List.mem_filterMap, List.mem_filterMap]
theorem setsOf_nodup {was is_ : List RowD} (h1 : Srt was) (h2 : Srt is_) : ((setsOf was is_).map Prod.fst).Nodup := by
  obtain ⟨h3, h4⟩ := raw_any h1.nodup h2.nodup (List.Perm.refl _) (List.Perm.refl _)
  rw [← h4]
  exact ((sortS_perm _).map Prod.fst).nodup_iff.2 h3
theorem setsOf_rise {was is_ : List RowD} (h1 : Srt was) (h2 : Srt is_) : (setsOf was is_).Pairwise (fun a b => a.1 < b.1) := by
  have hp : (setsOf was is_).Pairwise (fun a b => ltS b a = false) := by
    rw [setsOf_eq]
    exact (fold_ins ltS_asym ltS_tr _ [] List.Pairwise.nil).1
  have hn := setsOf_nodup h1 h2
  rw [List.nodup_iff_pairwise_ne, List.pairwise_map] at hn
  refine (hp.and hn).imp (fun {a b} h => ?_)
  rcases lt_cases h.2 with h3 | h3
  · exact h3
  · have h4 := h.1
    unfold ltS at h4
    rw [lessB_iff, decide_eq_false_iff_not] at h4
    exact absurd h3 h4
theorem setsOf_may {was is_ : List RowD} (h1 : RMay was) (h2 : RMay is_) : (setsOf was is_).all mayB = true := by
  rw [List.all_eq_true]
  intro s hs
  rcases setsOf_mem.1 hs with ⟨r, hr, e⟩ | ⟨r, hr, e⟩
  · rw [(fA_some e).1]; exact h2 r hr
  · rw [(fB_some e).1, mayB_iff]
    have := (mayB_iff _).1 (h1 r hr)
    exact ⟨fun _ => rfl, this.2.1, this.2.2.1, by simp⟩
/-- what is unlike, done to the table as it was, makes it what the changes told -/
theorem setsOf_app {was is_ : List RowD} (h1 : Srt was) (h2 : Srt is_) : appL was (setsOf was is_) = is_ := by
  refine Srt.ext (Srt.appL _ h1) h2 (fun x => ?_)
  obtain ⟨k, v⟩ := x
  have hk : k ∈ (setsOf was is_).map Prod.fst ↔ hitB (setsOf was is_) k = true := hitB_iff.symm
  rw [mem_appL (one_nodup (setsOf_nodup h1 h2))]
  constructor
  · rintro (h | ⟨h3, h4⟩)
    · rcases setsOf_mem.1 h with ⟨r, hr, e⟩ | ⟨r, hr, e⟩
      · have e1 := (fA_some e).1
        injection e1 with e1 e2
        injection e2 with e2 _
        rw [e1, e2]; exact hr
      · have e1 := (fB_some e).1
        injection e1 with _ e2
        injection e2 with _ e3
        cases e3
    · rw [hk, hit_iff h1.nodup h2.nodup h3, Classical.not_not] at h4
      exact h4
  · intro h
    by_cases hw : (k, v) ∈ was
    · refine .inr ⟨hw, ?_⟩
      rw [hk, hit_iff h1.nodup h2.nodup hw, Classical.not_not]
      exact h
    · refine .inl (setsOf_mem.2 (.inl ⟨(k, v), h, ?_⟩))
      unfold fA
      rw [if_neg]
      intro hb
      rw [Bool.and_eq_true] at hb
      have hv := of_decide_eq_true hb.2
      have := mem_val h1.nodup hb.1
      rw [hv] at this
      exact hw this
/-- each of what is unlike is so -/
theorem setsOf_unlike {was is_ : List RowD} {s : SetD} (hs : s ∈ setsOf was is_) : (s.2.2 = true → hasK was s.1 = true) ∧ (s.2.2 = false → hasK was s.1 = true → valOf was s.1 ≠ s.2.1) := by
  rcases setsOf_mem.1 hs with ⟨r, hr, e⟩ | ⟨r, hr, e⟩
  · obtain ⟨rfl, h⟩ := fA_some e
    exact ⟨(fun h => by cases h), fun _ h1 h2 => h ⟨h1, h2⟩⟩
  · obtain ⟨rfl, h⟩ := fB_some e
    exact ⟨fun _ => hasK_mem.2 (List.mem_map.2 ⟨r, hr, rfl⟩), fun h => by cases h⟩
theorem fitD_all (l : List SetD) (n : Nat) : (fitD l n).all mayB = true := by
  rw [List.all_eq_true]
  intro s hs
  have := List.mem_of_mem_take hs
  exact (List.mem_filter.1 this).2
theorem fitD_len (l : List SetD) (n : Nat) : (fitD l n).length ≤ n := by
  unfold fitD
  rw [List.length_take]
  exact Nat.min_le_left _ _
theorem two_len (k : List UInt8) : ∀ l : List RowD, (l.filter (fun r => decide (r.1 < k))).length + (l.filter (fun r => decide (k < r.1))).length ≤ l.length
  | [] => by simp
  | x :: t => by
    have ih := two_len k t
    rw [List.filter_cons, List.filter_cons]
    by_cases h1 : x.1 < k
    · have h2 : ¬ k < x.1 := fun h => lt_irr _ (List.lt_trans h1 h)
      rw [if_pos (decide_eq_true h1), if_neg (by rw [decide_eq_false h2]; simp), List.length_cons, List.length_cons]
      omega
    · rw [if_neg (by rw [decide_eq_false h1]; simp), List.length_cons]
      split
      · rw [List.length_cons]; omega
      · omega
theorem setR_len (l : List RowD) (k v : List UInt8) : (setR l k v).length ≤ l.length + 1 := by
  unfold setR
  rw [List.length_append, List.length_cons]
  exact Nat.succ_le_succ (two_len k l)
theorem appS_len (l : List RowD) (s : SetD) : (appS l s).length ≤ l.length + 1 := by
  unfold appS
  split
  · unfold delR
    exact Nat.le_succ_of_le (List.length_filter_le _ _)
  · exact setR_len _ _ _
theorem appL_len : ∀ (ss : List SetD) (l : List RowD), (appL l ss).length ≤ l.length + ss.length
  | [], l => by simp [appL]
  | s :: t, l => by
    have h1 := appL_len t (appS l s)
    have h2 := appS_len l s
    show (appL (appS l s) t).length ≤ _
    rw [List.length_cons]
    omega
end Go.Proofs.Ytnhfeoniiadjfaa.Lst
/- A part of a list: one set, the first rows. -/
namespace Go.Proofs.Ytnhfeoniiadjfaa.Lst
open Go.RowKit Go.Proofs.Ytnhfeoniiadjfaa.K Go.Proofs.Ytnhfeoniiadjfaa.Help Go.Proofs.Ytnhfeoniiadjfaa.Pfx Go.Proofs.Ytnhfeoniiadjfaa.Peer
set_option linter.unusedVariables false
theorem run_oneS {bk off n c k : Nat} (hk : k < n) (hc : n ≤ c) (z : Int) (hz : z = (k : Int) + 1) (W : World) :
    (Instr.slice 22 (.slice (some ⟨bk, off, none⟩) n c) (some (.int .i64 (k : Int))) (some (.int .i64 z)) none).run Try.prog W = .ok (.slice (some ⟨bk, off + k * 3, none⟩) 1 (c - k)) W := by
  subst hz
  have hel : Try.prog.elem 22 = 37 := by kernel_rfl
  have hu : Try.prog.underlying 22 = some (.slice (Try.prog.elem 22)) := by rw [hel]; exact Try.underlying22
  have e1 : ((k : Int) + 1).toNat = k + 1 := by omega
  rw [run_slice_lh (P := Try.prog) (ht := hu) (h0 := by omega) (h1 := by omega) (h2 := by omega), hel, e1]
  have hsz : (sizeOf 37).run Try.prog W = .ok 3 W := by kernel_rfl
  simp only [Result.andThen, hsz, sliced]
  have h1 : ¬ c = k := by omega
  have h2 : k + 1 - k = 1 := by omega
  simp [Addr.add, h1, h2]
theorem Lst.one {w : World} {N : Nat → Prop} {bk off c k : Nat} {l : List SetD} (h : Lst SetE w N (some ⟨bk, off, none⟩) c l) (hk : k < l.length) : Lst SetE w N (some ⟨bk, off + k * 3, none⟩) (c - k) [l.getD k zeroSet] := by
  have h1 := h.le
  have h2 := h.max
  refine ⟨by simp; omega, by omega, fun i x hx => ?_⟩
  have hi : i = 0 := by
    have := (List.getElem?_eq_some_iff.1 hx).1
    simpa using this
  subst hi
  have hx' : l.getD k zeroSet = x := by simpa using hx
  obtain ⟨bk', off', raw, e, hlt, hn, hc, hr⟩ := h.at_ k x (by rw [← hx']; exact getD_get zeroSet hk)
  cases e
  refine ⟨bk, off + k * 3, raw, rfl, hlt, hn, fun j hj => ?_, hr⟩
  have h3 := hc j hj
  rw [Nat.zero_mul, Nat.add_zero]
  exact h3
theorem run_firstR {A : Option Addr} {n c k : Nat} (hk : k ≤ n) (hc : n ≤ c) (W : World) (hA : ∀ a, A = some a → a.spot = none) :
    (Instr.slice 49 (.slice A n c) none (some (.int .i64 (k : Int))) none).run Try.prog W = .ok (.slice A k c) W := by
  have hel : Try.prog.elem 49 = 54 := by kernel_rfl
  have hu : Try.prog.underlying 49 = some (.slice (Try.prog.elem 49)) := by rw [hel]; exact Try.underlying49
  rw [run_slice_h (P := Try.prog) (ht := hu) (h0 := by omega) (h2 := by omega), hel]
  have hsz : (sizeOf 54).run Try.prog W = .ok 2 W := by kernel_rfl
  simp only [Result.andThen, hsz, sliced]
  rcases A with _ | ⟨b, o, s⟩
  · simp
  · have := hA _ rfl
    dsimp only at this
    subst this
    simp [Addr.add]
theorem Lst.first {w : World} {N : Nat → Prop} {A : Option Addr} {c k : Nat} {l : List RowD} (h : Lst RowE w N A c l) (hk : k ≤ l.length) : Lst RowE w N A c (l.take k) := by
  refine ⟨by rw [List.length_take]; have := h.le; omega, h.max, fun i x hx => ?_⟩
  rw [List.getElem?_take] at hx
  split at hx
  · exact h.at_ i x hx
  · cases hx
end Go.Proofs.Ytnhfeoniiadjfaa.Lst
/- built of the law. -/
namespace Go.Proofs.Ytnhfeoniiadjfaa.Lst
open Go.RowKit Go.Proofs.Ytnhfeoniiadjfaa.K Go.Proofs.Ytnhfeoniiadjfaa.Help Go.Proofs.Ytnhfeoniiadjfaa.Pfx Go.Proofs.Ytnhfeoniiadjfaa.Peer
set_option linter.unusedVariables false
def RetB (w : World) (l : List RowD) (n : Nat) (e : Ending) (w' : World) : Prop := ∃ p b, e = .returned (.tuple #[.pointer (some ⟨p, 0, none⟩), .bool true]) ∧ TTab w' p b n l ∧ w.heap.size ≤ p ∧ w.heap.size ≤ b ∧ Below w.heap.size w w'
set_option maxRecDepth 100000 in
set_option maxHeartbeats 1000000 in
theorem built_any (A : Option Addr) (a : Nat) (ss : List SetD) (w : World) (hs : Lst SetE w (fun _ => False) A a ss) (hm : ss.length ≤ 100000) (hall : ss.all mayB = true) :
    Calls Try.prog 20 #[.slice A ss.length a] w (RetB w (appL [] ss) ss.length) := by
  have NW := Lib.hid (new_any w)
  have HS := Lib.hid hs
  have HM := Lib.hid hm
  have HA := Lib.hid hall
  clear hs hm hall
  generalize hn : ss.length = n at *
  have HN := Lib.hid hn
  clear hn
  go_enter Try.func20, Try.ntmps20
  go_wp2_with fail
  (with_reducible refine NW.out.mono ?_)
  rintro e w1 ⟨p, b, rfl, hp, hb, ht, hb1⟩
  have AP := Lib.hid (apply_any p b 0 [] A a ss w1 ht (HS.out.below hb1) (by omega) (by rw [HN.out]; exact HM.out))
  rw [HN.out] at AP
  have HP := Lib.hid hp
  have HB := Lib.hid hb
  have HB1 := Lib.hid hb1
  clear ht hp hb hb1
  go_wp2_with fail
  (with_reducible refine AP.out.mono ?_)
  rintro e w2 (⟨-, rfl, ht, k⟩ | ⟨hf, -, -⟩)
  · have T2 := Lib.hid ht
    have B2 := Lib.hid (below_only HB1.out k (fun i e => by rw [e]; exact HB.out))
    have NM := Lib.hid (num13_any 0 w2)
    clear ht k
    go_wp2_with fail
    (with_reducible refine NM.out.mono ?_)
    rintro e w3 ⟨rfl, rfl⟩
    go_wp2_with fail
    go_ret2
    have T3 := T2.out
    rw [Nat.zero_add, HN.out] at T3
    exact ⟨p, b, rfl, T3, HP.out, HB.out, B2.out⟩
  · exact absurd (HA.out.symm.trans hf) (by decide)
end Go.Proofs.Ytnhfeoniiadjfaa.Lst
/- gcd of the law. -/
namespace Go.Proofs.Ytnhfeoniiadjfaa.Lst
open Go.RowKit Go.Proofs.Ytnhfeoniiadjfaa.K Go.Proofs.Ytnhfeoniiadjfaa.Help Go.Proofs.Ytnhfeoniiadjfaa.Pfx Go.Proofs.Ytnhfeoniiadjfaa.Peer
set_option linter.unusedVariables false
set_option maxRecDepth 100000 in
theorem gcd_any (a b : Nat) (ha : a ≤ 1000000) (hb : b ≤ 1000000) (w : World) : Calls Try.prog 57 #[.int .i64 (a : Int), .int .i64 (b : Int)] w (Quiet (.int .i64 (Nat.gcd a b : Int)) w) := by
  have HW : Hid (∃ n, w = w.drewN n) := Lib.hid ⟨0, rfl⟩
  go_enter Try.func57, Try.ntmps57
  go_wp2_with fail
  go_loopg [0, 1] b (fun gk x y wr => ∃ p q : Nat, p ≤ 1000000 ∧ q ≤ 1000000 ∧ gk = q ∧ x = .int .i64 (p : Int) ∧ y = .int .i64 (q : Int) ∧ Hid (Nat.gcd p q = Nat.gcd a b) ∧ Hid (∃ n, wr = w.drewN n))
  case atStart => exact ⟨a, b, ha, hb, rfl, rfl, rfl, rfl, HW⟩
  case round =>
    obtain ⟨p, q, hp, hq, hgk, rfl, rfl, HG, HN⟩ := hrel
    subst hgk
    rcases Nat.eq_zero_or_pos gk with h0 | h0
    · subst h0
      have HE : Nat.gcd a b = p := by rw [← HG.out, Nat.gcd_zero_right]
      go_wp2_with fail
      go_ret
      obtain ⟨n, hn⟩ := HN.out
      exact ⟨n, by rw [HE]; rfl, hn⟩
    · have e0 : ¬ (gk : Int) = 0 := by omega
      have e1 : (p : Int).tmod (gk : Int) = ((p % gk : Nat) : Int) := by rw [Int.tmod_eq_emod_of_nonneg (by omega)]; rfl
      have e2 : p % gk < gk := Nat.mod_lt _ h0
      have HG2 : Hid (Nat.gcd gk (p % gk) = Nat.gcd a b) := Lib.hid (by rw [← HG.out, Nat.gcd_comm p gk, Nat.gcd_rec gk p, Nat.gcd_comm])
      go_wp2_with fail
      go_region
      all_goals
        go_wp2_with fail
        go_roundg (p % gk)
        case measure => exact e2
        case rel => exact ⟨gk, p % gk, hq, by omega, rfl, rfl, by first | rfl | go_num, HG2, Lib.hid (by obtain ⟨n, hn⟩ := HN.out; exact ⟨n + 1, by rw [hn]; rfl⟩)⟩
end Go.Proofs.Ytnhfeoniiadjfaa.Lst
/- turned of the law. -/
namespace Go.Proofs.Ytnhfeoniiadjfaa.Lst
open Go.RowKit Go.Proofs.Ytnhfeoniiadjfaa.K Go.Proofs.Ytnhfeoniiadjfaa.Help Go.Proofs.Ytnhfeoniiadjfaa.Pfx Go.Proofs.Ytnhfeoniiadjfaa.Peer
set_option linter.unusedVariables false
theorem gcd_end (n : Nat) : Nat.gcd (n + 1) n = 1 := by rw [Nat.add_comm, Nat.gcd_add_self_left, Nat.gcd_one_left]
theorem kq_le (k q : Nat) (h1 : k ≤ 100000) (h2 : q ≤ 100001) : k * q ≤ 10000100000 := Nat.mul_le_mul h1 h2
theorem size_alloc1 (w : World) (o : Obj) : (w.alloc o).heap.size = w.heap.size + 1 := by simp
def RetT (w : World) (l : List RowD) (e : Ending) (w' : World) : Prop := ∃ f b A c, Nat.gcd b l.length = 1 ∧ e = .returned (.slice A (turnD l f b l.length).length c) ∧ Lst SetE w' (fun _ => False) A c (turnD l f b l.length) ∧ Below w.heap.size w w'
theorem turnD_nil (l : List RowD) (f b : Nat) : turnD l f b 0 = [] := rfl
theorem turnD_len (l : List RowD) (f b n : Nat) : (turnD l f b n).length = n := by unfold turnD; simp
set_option maxRecDepth 100000 in
set_option maxHeartbeats 4000000 in
theorem turned13_any (A : Option Addr) (a : Nat) (l : List RowD) (f b : Int) (w : World) (hs : Lst RowE w (fun _ => False) A a l) (hn : l.length ≤ 100000) :
    Calls Try.prog 27 #[.slice A l.length a, .int .i64 f, .int .i64 b] w (RetT w l) := by
  have HS := Lib.hid hs
  have h1 := hs.le
  have h2 := hs.max
  clear hs
  unfold RetT
  generalize hm : l.length = n at *
  have HN := Lib.hid hm
  clear hm
  go_enter Try.func27, Try.ntmps27
  rcases Nat.eq_zero_or_pos n with h0 | h0
  · subst h0
    go_wp2_with fail
    go_ret
    exact ⟨0, 1, none, 0, by simp, rfl, Lst.nil _ _, Below.refl _ _⟩
  have e0 : ¬ (n : Int) = 0 := by omega
  have e0b : ((n : Int) == 0) = false := by simp; omega
  obtain ⟨fj, hf, hfj⟩ := tmod_idx f n h0 (by omega)
  obtain ⟨bj, hb, hbj⟩ := tmod_idx b n h0 (by omega)
  go_wp2_with fail
  go_loopg [2] (n + 1 - bj) (fun gk y wr => ∃ q : Nat, q ≤ n + 1 ∧ gk = n + 1 - q ∧ y = .int .i64 (q : Int) ∧ Hid (Below w.heap.size w wr))
  case atStart => exact ⟨bj, by omega, rfl, rfl, Lib.hid (Below.refl _ _)⟩
  case round =>
    obtain ⟨q, hq, rfl, rfl, HB⟩ := hrel
    have GC := Lib.hid (gcd_any q n (by omega) (by omega) wr)
    have HGE : Hid (q = n + 1 → Nat.gcd q n = 1) := Lib.hid (fun e => by rw [e]; exact gcd_end n)
    obtain ⟨d, hd⟩ : ∃ d, Nat.gcd q n = d := ⟨_, rfl⟩
    rw [hd] at GC HGE
    have HD := Lib.hid hd
    clear hd
    go_wp2_with fail
    (with_reducible refine GC.out.mono ?_)
    rintro e w1 ⟨nd, rfl, rfl⟩
    have B1 := Lib.hid (below_drewN HB.out nd)
    generalize wr.drewN nd = w1 at *
    clear HB
    by_cases hd1 : d = 1
    · subst hd1
      go_wp2_with fail
      go_loopg [8, 9] n (fun gk v i wr => ∃ k : Nat, k ≤ n ∧ gk = n - k ∧ i = .int .i64 (k : Int) ∧ Hid (OwnL SetE 37 wr (fun _ => False) w.heap.size v (turnD l fj q k)) ∧ Hid (Below w.heap.size w wr))
      case atStart => exact ⟨0, by omega, rfl, rfl, Lib.hid (OwnL.nil _ _ _ _ _), B1⟩
      case round =>
        clear B1 GC HGE
        obtain ⟨k, hk, rfl, rfl, HO, HB⟩ := hrel
        obtain ⟨A0, c0, rfl⟩ := HO.out.slice
        have HTL : Hid ((turnD l fj q k).length = k) := Lib.hid (turnD_len _ _ _ _)
        by_cases hlt : k < n
        · have i1 : (k : Int) < (n : Int) := by omega
          have hkq := kq_le k q (by omega) (by omega)
          have p0 : (k : Int) * (q : Int) = ((k * q : Nat) : Int) := by push_cast; rfl
          have q0 : 0 ≤ (k : Int) * (q : Int) := by rw [p0]; exact Int.natCast_nonneg _
          have q1 : (k : Int) * (q : Int) ≤ 10000100000 := by rw [p0]; exact Int.ofNat_le.2 hkq
          have p3 : ((fj : Int) + (k : Int) * (q : Int)) % (n : Int) = (((fj + k * q) % n : Nat) : Int) := by rw [Int.natCast_emod, Int.natCast_add, ← p0]
          have p4 : ((fj : Int) + (k : Int) * (q : Int)).tmod (n : Int) = (((fj + k * q) % n : Nat) : Int) := by rw [Int.tmod_eq_emod_of_nonneg (by omega), p3]
          clear p0 hkq
          have hj : (fj + k * q) % n < n := Nat.mod_lt _ h0
          have HT := Lib.hid (turnD_step l fj q k)
          rw [HN.out] at HT
          generalize (fj + k * q) % n = j at *
          have j0 : (0 : Int) ≤ (j : Int) := by omega
          have j1 : (j : Int) < (n : Int) := by omega
          obtain ⟨bk, off, A1, a1, B1, b1, rfl, hbk, d0, d1, s1, s2⟩ := HS.out.row j _ (getD_get zR (by rw [HN.out]; exact hj))
          obtain ⟨⟨xk, xv⟩, hx⟩ : ∃ y, l.getD j zR = y := ⟨_, rfl⟩
          rw [hx] at d0 d1 s1 s2 HT
          dsimp only at d0 d1 s1 s2 HT
          have y0 := (HB.out.cell (p := ⟨bk, _, none⟩) hbk).trans d0
          have y1 := (HB.out.cell (p := ⟨bk, _, none⟩) hbk).trans d1
          have S1 := Lib.hid s1
          have S2 := Lib.hid s2
          clear d0 d1 s1 s2 hx hbk
          have hb1 := below_alloc (Below.refl wr.heap.size wr) (.cells #[.slice A1 xk.length a1, .slice B1 xv.length b1] 54)
          have hb2 := below_alloc hb1 (.cells #[.slice A1 xk.length a1, .slice B1 xv.length b1, .bool false] 37)
          have O2 := Lib.hid (HO.out.below hb2)
          have X2 := Lib.hid (blk_new (wr.alloc (.cells #[.slice A1 xk.length a1, .slice B1 xv.length b1] 54)) (.cells #[.slice A1 xk.length a1, .slice B1 xv.length b1, .bool false] 37))
          have B2 := Lib.hid (below_step HB.out hb2)
          have E2 : Hid (SetE.R ((wr.alloc (.cells #[.slice A1 xk.length a1, .slice B1 xv.length b1] 54)).alloc (.cells #[.slice A1 xk.length a1, .slice B1 xv.length b1, .bool false] 37)) (fun i => (fun _ => False) i ∨ (Value.slice A0 (turnD l fj q k).length c0).ownBlock = some i) [.slice A1 xk.length a1, .slice B1 xv.length b1, .bool false] (xk, xv, false)) :=
            Lib.hid ⟨A1, a1, B1, b1, rfl, (S1.out.reno (fun i hi => hi.elim False.elim (fun h => .inr (HO.out.base_le h)))).below B2.out, (S2.out.reno (fun i hi => hi.elim False.elim (fun h => .inr (HO.out.base_le h)))).below B2.out⟩
          clear hb1 hb2
          go_wp2_with (at_builtin; refine push (E := SetE) 37 22 _ 56 rfl (.tmp 51) (.tmp 57) rfl Try.underlying22 info_set rfl (by decide) (by decide) (by decide) (.slice A0 (turnD l fj q k).length c0) (turnD l fj q k) (xk, xv, false) [.slice A1 xk.length a1, .slice B1 xv.length b1, .bool false] (wr.heap.size + 1) 1 rfl (by first | rfl | simp) O2.out (by have := X2.out; rwa [size_alloc1] at this) E2.out B2.out.size (by have := HTL.out; omega) ?_ (fun _ h => h.elim); intro A5 c5 w5 o5 k5 n5; rw [← HT.out] at o5; have O5 := Lib.hid o5; have B5 := Lib.hid (below_only B2.out k5 (fun i hi => O2.out.base_le hi)); clear o5 k5 n5)
          go_roundg (n - (k + 1))
          case measure => omega
          case rel => exact ⟨k + 1, by omega, rfl, by go_num, by first | exact O5 | (rw [HTL.out] at *; exact O5), B5⟩
        · obtain rfl : k = n := by omega
          have i1 : ¬ (k : Int) < (k : Int) := by omega
          go_wp2_with fail
          go_ret
          obtain ⟨A9, a9, e9, l9⟩ := HO.out.lst (fun _ _ h => h)
          exact ⟨fj, q, HD.out, A0, c0, rfl, by cases e9; exact l9, HB.out⟩
    · have i1 : ¬ (d : Int) = 1 := by omega
      have hq2 : q < n + 1 := Nat.lt_of_le_of_ne hq (fun e => hd1 (HGE.out e))
      go_wp2_with fail
      go_roundg (n + 1 - (q + 1))
      case measure => omega
      case rel => exact ⟨q + 1, by omega, rfl, by go_num, B1⟩
end Go.Proofs.Ytnhfeoniiadjfaa.Lst
/- Facts that stay when a map of the call's own is changed: one word for all of them. -/
namespace Go.Proofs.Ytnhfeoniiadjfaa.Lst
open Go.RowKit Go.Proofs.Ytnhfeoniiadjfaa.K Go.Proofs.Ytnhfeoniiadjfaa.Help Go.Proofs.Ytnhfeoniiadjfaa.Pfx Go.Proofs.Ytnhfeoniiadjfaa.Peer
set_option linter.unusedVariables false

def IsMap (w : World) (b : Nat) : Prop := ∃ es clock, w.heap[b]? = some (.map es clock)
theorem TMap.isMap {w : World} {b n : Nat} {l : List RowD} (h : TMap w b n l) : IsMap w b := by
  obtain ⟨D, ⟨es, clock, hh, _⟩, _⟩ := h
  exact ⟨es, clock, hh⟩
theorem IsMap.noCell {w : World} {b : Nat} (h : IsMap w b) : NoCell w b := by
  obtain ⟨es, clock, hh⟩ := h
  intro j
  simp [World.cell?, hh]
theorem IsMap.noU8 {w : World} {b : Nat} (h : IsMap w b) : NoU8 w b := fun j x e => by rw [h.noCell j] at e; cases e
theorem IsMap.ne {w : World} {b g : Nat} {cs : Array Value} {t : TypeId} {fr : Nat × Nat} (h : IsMap w b) (hg : w.heap[g]? = some (.cells cs t fr)) : g ≠ b := fun e => by
  obtain ⟨es, clock, hh⟩ := h
  rw [e, hh] at hg
  cases hg
class NeN (a b : Nat) : Prop where
  ne : a ≠ b
/-- what stays when the map at b is changed: p of w, q of w'; b lies from H on -/
class Stm (H : Nat) (w w' : World) (b : Nat) (p : Prop) (q : outParam Prop) : Prop where
  keep : p → Only w w' (fun i => i = b) → IsMap w b → H ≤ b → q
section
variable {H : Nat} {w w' : World} {b : Nat}
instance stm_and {p q r s : Prop} [Stm H w w' b p q] [Stm H w w' b r s] : Stm H w w' b (p ∧ r) (q ∧ s) := ⟨fun h k m e => ⟨Stm.keep h.1 k m e, Stm.keep h.2 k m e⟩⟩
instance stm_true : Stm H w w' b True True := ⟨fun h _ _ _ => h⟩
instance stm_bs {A : Option Addr} {c : Nat} {l : List UInt8} : Stm H w w' b (Bs w A c l) (Bs w' A c l) := ⟨fun h k m _ => bs_only h k (fun i hi _ => by rw [hi]; exact m.noU8)⟩
theorem lstS_map {A : Option Addr} {c : Nat} {l : List SetD} (h : Lst SetE w (fun _ => False) A c l) (k : Only w w' (fun i => i = b)) (m : IsMap w b) : Lst SetE w' (fun _ => False) A c l :=
  ((h.avoidS m.noCell).only k (fun i _ hi => hi)).reno (fun i hi => hi.elim)
instance stm_lstS {A : Option Addr} {c : Nat} {l : List SetD} : Stm H w w' b (Lst SetE w (fun _ => False) A c l) (Lst SetE w' (fun _ => False) A c l) := ⟨fun h k m _ => lstS_map h k m⟩
theorem lstR_map {A : Option Addr} {c : Nat} {l : List RowD} (h : Lst RowE w (fun _ => False) A c l) (k : Only w w' (fun i => i = b)) (m : IsMap w b) : Lst RowE w' (fun _ => False) A c l := by
  have hb := m.noCell
  have h2 : Lst RowE w (fun i => i = b) A c l := ⟨h.le, h.max, fun i x hx => by
    obtain ⟨bk, off, raw, e, hlt, _, hc, hr⟩ := h.at_ i x hx
    refine ⟨bk, off, raw, e, hlt, fun he => ?_, hc, ?_⟩
    · have hl : raw.length = 2 := RowE.len hr
      have h0 := hc 0 (by decide)
      subst he
      rw [hb, List.getElem?_eq_getElem (by omega)] at h0
      cases h0
    · obtain ⟨A1, a1, B1, b1, e1, s1, s2⟩ := hr
      exact ⟨A1, a1, B1, b1, e1, s1.avoid hb, s2.avoid hb⟩⟩
  exact (h2.only k (fun i _ hi => hi)).reno (fun i hi => hi.elim)
instance stm_lstR {A : Option Addr} {c : Nat} {l : List RowD} : Stm H w w' b (Lst RowE w (fun _ => False) A c l) (Lst RowE w' (fun _ => False) A c l) := ⟨fun h k m _ => lstR_map h k m⟩
instance stm_below {w0 : World} : Stm w0.heap.size w w' b (Below w0.heap.size w0 w) (Below w0.heap.size w0 w') := ⟨fun h k _ e => below_only h k (fun i hi => by rw [hi]; exact e)⟩
instance stm_blk {g : Nat} {cs : Array Value} {t : TypeId} {fr : Nat × Nat} : Stm H w w' b (w.heap[g]? = some (.cells cs t fr)) (w'.heap[g]? = some (.cells cs t fr)) := ⟨fun h k m _ => k.blk h (m.ne h)⟩
theorem TMap.off {b' n : Nat} {l : List RowD} (h : TMap w b' n l) (k : Only w w' (fun i => i = b)) (m : IsMap w b) (hn : b' ≠ b) : TMap w' b' n l := h.only k hn (fun i hi _ => by rw [hi]; exact m.noU8)
instance stm_tmap {b' n : Nat} {l : List RowD} [hn : NeN b' b] : Stm H w w' b (TMap w b' n l) (TMap w' b' n l) := ⟨fun h k m _ => h.off k m hn.ne⟩
instance stm_ttab {p b' n : Nat} {l : List RowD} [hn : NeN b' b] : Stm H w w' b (TTab w p b' n l) (TTab w' p b' n l) := ⟨fun h k m _ => ⟨k.blk h.blk (m.ne h.blk), h.map.off k m hn.ne⟩⟩
instance stm_titer {g b' : Nat} {l : List RowD} [hn : NeN b' b] : Stm H w w' b (TIter w g b' l) (TIter w' g b' l) := ⟨fun h k m _ => ⟨k.blk h.blk (m.ne h.blk), h.map.off k m hn.ne⟩⟩
instance stm_tover {p b' c' n m : Nat} {l q : List RowD} [hn : NeN b' b] [hm : NeN c' b] : Stm H w w' b (TOver w p b' n l c' m q) (TOver w' p b' n l c' m q) := ⟨fun h k m _ => ⟨k.blk h.blk (m.ne h.blk), h.is_.off k m hn.ne, h.was.off k m hm.ne, h.ne⟩⟩
theorem mkeep {p q : Prop} (k : Only w w' (fun i => i = b)) (m : IsMap w b) (e : H ≤ b) (h : Hid p) [Stm H w w' b p q] : Hid q := Lib.hid (Stm.keep h.out k m e)
end
example {w w1 w0 : World} {A : Option Addr} {l : List UInt8} {p b b' n : Nat} {t : List RowD} (hb : Only w w1 (fun i => i = b')) (m : IsMap w b') (e : w0.heap.size ≤ b') (S : Hid (Bs w A 3 l ∧ TTab w p b n t ∧ Below w0.heap.size w0 w ∧ True)) (hn : NeN b b') : Hid (Bs w1 A 3 l ∧ TTab w1 p b n t ∧ Below w0.heap.size w0 w1 ∧ True) := by
  have S := mkeep hb m e S
  exact S
end Go.Proofs.Ytnhfeoniiadjfaa.Lst
/- All's rows handed to the rounds of a range. -/
namespace Go.Proofs.Ytnhfeoniiadjfaa.Lst
open Go.RowKit Go.Shelf Go.Proofs.Ytnhfeoniiadjfaa.K Go.Proofs.Ytnhfeoniiadjfaa.Help Go.Proofs.Ytnhfeoniiadjfaa.Pfx Go.Proofs.Ytnhfeoniiadjfaa.Peer
set_option linter.unusedVariables false
attribute [local go_sem] Oper.semAt_some
set_option maxRecDepth 100000 in
set_option maxHeartbeats 2000000 in
theorem all1_range (n l g b : Nat) (q : List RowD) (w : World) (T : Nat → Prop) (hT : ∀ i, T i → i < w.heap.size)
    (I : Nat → Nat → World → Prop) (hit : TIter w g b q) (h0 : ∀ W1, Below w.heap.size w W1 → I W1.heap.size 0 W1) (hI : ∀ M k W W', I M k W → Below W.heap.size W W' → I M k W') (hM : ∀ M k W, I M k W → TIter W g b q) (hn : q.length ≤ 1000000)
    (hy : ∀ (M k : Nat) (W0 W : World) (A B : Option Addr) (a d : Nat), k < q.length → I M k W0 → w.heap.size ≤ M → M ≤ W0.heap.size → Below W0.heap.size W0 W → Bs W A a (q.getD k zR).1 → Bs W B d (q.getD k zR).2 → (∀ ad, A = some ad → W0.heap.size ≤ ad.block) → (∀ ad, B = some ad → W0.heap.size ≤ ad.block) →
      YieldAt Fence.wide (n - 1) Try.prog l #[.slice A (q.getD k zR).1.length a, .slice B (q.getD k zR).2.length d] W (fun e W' => Only W W' (fun i => T i ∨ M ≤ i) ∧ e = .returned (.bool true) ∧ I M (k + 1) W')) :
    CallsIn Fence.wide n Try.prog 62 #[.func (.yield l) #[] #[], .pointer (some ⟨g, 0, none⟩)] w (fun e w' => (∃ v, e = .returned v) ∧ ∃ M, I M q.length w') := by
  have H0 := Lib.hid h0
  have c0 := hit.cell
  have KY := Lib.hid (keysT_any b q.length q w hit.map hn)
  have HI := Lib.hid hI
  have HM := Lib.hid hM
  have HY := Lib.hid hy
  have HT := Lib.hid hT
  have HSR := Lib.hid hit.map.srt
  have H47 : Hid (∀ r, r ∈ q → r.1.length ≤ 140737488355328) := Lib.hid (by obtain ⟨D, _, h⟩ := hit.map; exact h.len)
  have HNN := Lib.hid hn
  clear h0 hI hM hy hT hn hit
  generalize hm : q.length = m at *
  have HMM := Lib.hid hm
  have HLM : Hid ((q.map Prod.fst).length = m) := Lib.hid (by rw [List.length_map]; exact hm)
  clear hm
  generalize hks : q.map Prod.fst = ks at *
  have HKS := Lib.hid hks
  clear hks
  rw [HLM.out] at KY
  refine callsIn_of_wp Try.func62 rfl trivial ?_ rfl
  simp only [Try.ntmps62, List.size_toArray, List.length_cons, List.length_nil, Nat.reduceAdd, Nat.reduceSub, Array.replicate_succ, Array.replicate_zero, List.push_toArray, List.append_toArray, List.nil_append, List.cons_append]
  gi_wp2_with fail
  refine ⟨trivial, (fun h => by cases h), ?_⟩
  (with_reducible refine (callsIn_wide.2 KY.out).mono ?_)
  rintro e w1 ⟨KA, kc, rfl, hkl, hb1, hnw⟩
  have HK : Hid (∀ j x, ks[j]? = some x → ∃ bk off, KA = some ⟨bk, off, none⟩ ∧ w.heap.size ≤ bk ∧ bk < w1.heap.size ∧ w1.cell? ⟨bk, off + j, none⟩ = some (.string ⟨x.toArray⟩)) := Lib.hid (fun j x hx => by
    obtain ⟨bk, off, raw, e, hlt, -, hc, hr⟩ := hkl.at_ j x hx
    refine ⟨bk, off, e, hnw _ e, hlt, ?_⟩
    have h0 := hc 0 (by decide)
    rw [show StrE.sz = 1 from rfl, Nat.mul_one, Nat.add_zero] at h0
    cases hr
    exact h0)
  have hkc := hkl.le
  have hkc2 := hkl.max
  rw [HLM.out] at hkc
  have I1 := Lib.hid (H0.out w1 hb1)
  have SZ1 := Lib.hid hb1.size
  clear hkl hb1 hnw KY c0
  gi_wp2_with fail
  gi_loopw [8] (fun i wr => ∃ k : Nat, k ≤ m ∧ i = .int .i64 (k : Int) ∧ Hid (I w1.heap.size k wr) ∧ Hid (Stands w1 wr w.heap.size w1.heap.size)) (fun i _ => m - (intOf i).toNat)
  case atStart => exact ⟨0, by omega, rfl, I1, Nat.le_refl _, fun _ _ _ => rfl⟩
  case round =>
    clear I1
    obtain ⟨k, hk, rfl, HIK, HST⟩ := hrel
    by_cases hlt : k < m
    · have i1 : (k : Int) < (m : Int) := by omega
      have i0 : (0 : Int) ≤ (k : Int) := by omega
      have hkl : k < q.length := by rw [HMM.out]; exact hlt
      have hmem : q.getD k zR ∈ q := by
        have e : q.getD k zR = q[k] := by simp [hkl]
        rw [e]; exact List.getElem_mem hkl
      have hgk : ks[k]? = some (q.getD k zR).1 := by rw [← HKS.out, List.getElem?_map]; simp [hkl]
      obtain ⟨bk, off, rfl, b1, b2, y1⟩ := HK.out k _ hgk
      have hval : valOf q (q.getD k zR).1 = (q.getD k zR).2 := valOf_mem HSR.out.nodup hmem
      have h47 := H47.out _ hmem
      have Y := HY.out w1.heap.size k wr
      obtain ⟨⟨x, v⟩, hx⟩ : ∃ y, q.getD k zR = y := ⟨_, rfl⟩
      rw [hx] at y1 hval h47 Y
      dsimp only at y1 hval h47 Y
      have y0 : wr.cell? ⟨bk, off + k, none⟩ = some (.string ⟨x.toArray⟩) := (cell_blk (ad := ⟨bk, _, none⟩) (HST.out.2 bk b1 b2)).trans y1
      have c1 := (HM.out _ k wr HIK.out).cell
      obtain ⟨cap, w2, hcv, s2, hb2⟩ := bytes_of wr x h47
      have i2 := HI.out _ k wr w2 HIK.out hb2
      have c2 := (HM.out _ k w2 i2).cell
      obtain ⟨B, d, hlook, sv⟩ := tlookv_run (HM.out _ k w2 i2).map x h47
      rw [hval] at hlook sv
      have hfld := field_held B v.length d w2
      have CL := Lib.hid (clone_any B d v w2 sv)
      have I2 := Lib.hid i2
      have S2 := Lib.hid s2
      have SZ2 := Lib.hid hb2.size
      have B2 := Lib.hid hb2
      have HYK := Lib.hid (fun W A B a d => Y W A B a d hlt)
      have HSW : Hid (w.heap.size ≤ wr.heap.size) := Lib.hid (Nat.le_trans SZ1.out HST.out.1)
      clear hkl hmem hgk b1 b2 y1 hval h47 hx i2 s2 hb2 sv Y
      gi_wp2_with fail
      refine ⟨trivial, (fun h => by cases h), ?_⟩
      (with_reducible refine (callsIn_wide.2 CL.out).mono ?_)
      rintro e w3 ⟨B3, d3, rfl, s3, hb3, n3⟩
      obtain ⟨fy, ty, asg, bdy, hyy, hRR⟩ := HYK.out w3 _ B3 cap d3 HIK.out SZ1.out HST.out.1 (below_step B2.out hb3) (S2.out.below hb3) s3 (fun ad e => by injection e with e; rw [← e]; exact Nat.le_refl _) (fun ad e => Nat.le_trans SZ2.out (n3 ad e))
      have HR := Lib.hid hRR
      have B3 := Lib.hid (below_step B2.out hb3)
      clear s3 hb3 n3 hRR
      gi_wp2_with fail
      refine ⟨(fun h => by cases h), ?_⟩
      (with_reducible refine HR.out.mono ?_)
      rintro e w4 ⟨k4, rfl, i4⟩
      have I4 := Lib.hid i4
      have ST4 : Hid (Stands w1 w4 w.heap.size w1.heap.size) := Lib.hid ⟨Nat.le_trans HST.out.1 (Nat.le_trans B3.out.size k4.size), fun i hlo hhi => by
        have hwr : i < wr.heap.size := Nat.lt_of_lt_of_le hhi HST.out.1
        have h3 := k4.block i (Nat.lt_of_lt_of_le hwr B3.out.size) (fun h => h.elim (fun h => by have := HT.out i h; omega) (fun h => by omega))
        exact h3.trans ((B3.out.block i hwr).trans (HST.out.2 i hlo hhi))⟩
      clear k4 i4
      gi_wp2_with fail
      go_roundw
      case measure => simp only [intOf]; omega
      case rel => exact ⟨k + 1, by omega, by go_num, I4, ST4⟩
    · obtain rfl : k = m := by omega
      have i1 : ¬ (k : Int) < (k : Int) := by omega
      gi_wp2_with fail
      go_end0
      exact ⟨⟨_, rfl⟩, _, HIK.out⟩
end Go.Proofs.Ytnhfeoniiadjfaa.Lst
/- A range over All whose body does not leave. -/
namespace Go.Proofs.Ytnhfeoniiadjfaa.Lst
open Go.RowKit Go.Shelf Go.Proofs.Ytnhfeoniiadjfaa.K Go.Proofs.Ytnhfeoniiadjfaa.Help Go.Proofs.Ytnhfeoniiadjfaa.Pfx Go.Proofs.Ytnhfeoniiadjfaa.Peer
set_option linter.unusedVariables false

theorem only_putObj (w : World) (l : Nat) (o : Obj) : Only w (w.putObj l o) (fun i => i = l) :=
  ⟨rfl, rfl, rfl, by simp, fun i hi hn => World.putObj_heap_other (fun e => hn e)⟩
theorem wpIn_range_all (n : Nat) (hn1 : 1 ≤ n) {gop : Operand} {ps : Array Tmp} {assign body : Code} {Q : Exit → Act → World → Prop} {a : Act} {w : World} {g b : Nat} {q : List RowD}
    (hg : a.eval gop = allFn g) (hps : ps.size = 2) (hn : q.length ≤ 1000000) (T : Nat → Prop) (hT : ∀ i, T i → i < w.heap.size)
    (eg : ∀ args w, (callFunc 62 args).run Try.prog w = .ok (.enter 62 args) w)
    (I : Nat → Nat → World → Prop) (h0 : ∀ M W, w.heap.size ≤ M → Below w.heap.size w W → I M 0 W) (hI : ∀ M k W W', I M k W → Below W.heap.size W W' → I M k W')
    (hIp : ∀ M k W l o o', w.heap.size ≤ l → l < M → W.heap[l]? = some o → o.isCells = false → I M k W → I M k (W.putObj l o')) (hIT : ∀ M k W, I M k W → TIter W g b q)
    (a₁ : Value → Value → Act)
    (hassign : ∀ (l : Nat) (u v : Value) (W : World) (K : Act → World → Prop), K (a₁ u v) W → assign.wpIn (Fence.wide.inRound l) (n - 1 - 1) Try.prog (Exit.then K (fun _ _ _ => False)) { tmps := (ps.zip #[u, v]).foldl (fun t (p, v) => t.setIfInBounds p v) a.tmps, defers := [] } W)
    (hbody : ∀ (l M k : Nat) (W0 W Wb : World) (A B : Option Addr) (x d : Nat), w.heap.size ≤ l → l < M → k < q.length → I M k W0 → w.heap.size ≤ M → M ≤ W0.heap.size → Below W0.heap.size W0 W → (∃ o, W.heap[l]? = some o ∧ o.isCells = false) → Only W Wb (fun i => i = l) → Wb.heap.size = W.heap.size → Bs Wb A x (q.getD k zR).1 → Bs Wb B d (q.getD k zR).2 → (∀ ad, A = some ad → W0.heap.size ≤ ad.block) → (∀ ad, B = some ad → W0.heap.size ≤ ad.block) →
      body.wpIn (Fence.wide.inRound l) (n - 1 - 1) Try.prog (fun e _ W' => e = .normal ∧ Only Wb W' (fun i => T i ∨ M ≤ i) ∧ I M (k + 1) W') (a₁ (.slice A (q.getD k zR).1.length x) (.slice B (q.getD k zR).2.length d)) Wb)
    (hdone : ∀ (D M : Nat) (W : World), w.heap.size ≤ D → I M q.length W → W.heap[D]? = some (.deferred (some [])) → Q .normal { a with defers := { target := .collected D, args := #[] } :: a.defers } W) :
    (Code.rangeFunc gop ps assign body).wpIn Fence.wide n Try.prog Q a w := by
  refine wpIn_rangeFunc ?_
  intro fn hfn
  obtain ⟨rec, hrec⟩ : ∃ rec : LoopState → Option Code → Loop, rec = fun st pe => { state := st, pending := pe, fn, tmps := a.tmps, params := ps, assign, body, defers := w.heap.size } := ⟨_, rfl⟩
  obtain ⟨W1, hW1⟩ : ∃ W1, (w.alloc (.deferred (some []))).alloc (.loop (rec .ready none)) = W1 := ⟨_, rfl⟩
  have hL1 : W1.heap[w.heap.size + 1]? = some (.loop (rec .ready none)) := by
    rw [← hW1]; have := World.alloc_heap_new (w.alloc (.deferred (some []))) (.loop (rec .ready none)); rwa [World.size_alloc] at this
  have hK1 : W1.heap[w.heap.size]? = some (.deferred (some [])) := by
    rw [← hW1]; exact (Below.heap_alloc _ _ _ (by simp)).trans (World.alloc_heap_new w _)
  have hb1 : Below w.heap.size w W1 := by rw [← hW1]; exact ((Below.refl _ w).alloc (Nat.le_refl _) _).alloc (by simp) _
  have hs1 : W1.heap.size = w.heap.size + 2 := by rw [← hW1]; simp
  refine ⟨w.heap.size + 1, [{ target := .collected w.heap.size, args := #[] }], W1, { target := .fn (.func 62) #[.pointer (some ⟨g, 0, none⟩)], args := #[.func (.yield (w.heap.size + 1)) #[] #[]] }, W1, 62,
    #[.func (.yield (w.heap.size + 1)) #[] #[]] ++ #[.pointer (some ⟨g, 0, none⟩)], W1, ?_, ?_, ?_, ?_, fun _ => hn1, ?_⟩
  · rw [← hW1, hrec]; exact run_enterLoop_outer _ _ _ _ _
  · simp only [resolve, hg, allFn]
    simp [go_sem]
  · intro f' hf'; trivial
  · simp [invoke, go_sem, eg]
  · have hit1 : TIter W1 g b q := hIT _ _ _ (h0 W1.heap.size W1 (by omega) hb1)
    refine (all1_range (n - 1) (w.heap.size + 1) g b q W1 (fun i => T i ∨ i = w.heap.size + 1) (fun i hi => by rcases hi with hi | hi; have := hT i hi; omega; omega)
      (fun M k W => (w.heap.size + 2 ≤ M ∧ I M k W) ∧ W.heap[w.heap.size + 1]? = some (.loop (rec .ready none)) ∧ W.heap[w.heap.size]? = some (.deferred (some []))) hit1
      (fun W2 hb2 => ⟨⟨by have := hb2.size; omega, h0 _ _ (by have := hb2.size; omega) (below_step hb1 hb2)⟩, (hb2.block _ (by omega)).trans hL1, (hb2.block _ (by omega)).trans hK1⟩)
      (fun M k W W' ⟨h1, h2, h3⟩ hb => ⟨⟨h1.1, hI M k W W' h1.2 hb⟩, (hb.block _ (Array.getElem?_eq_some_iff.1 h2).1).trans h2, (hb.block _ (Array.getElem?_eq_some_iff.1 h3).1).trans h3⟩)
      (fun M k W h => hIT M k W h.1.2) hn ?_).mono ?_
    · rintro M k W0 W A B x d hk ⟨⟨hMM, hi⟩, hl0, hd0⟩ hM hMN hBW sa sb na nb
      have hl := (hBW.block _ (Array.getElem?_eq_some_iff.1 hl0).1).trans hl0
      have hd := (hBW.block _ (Array.getElem?_eq_some_iff.1 hd0).1).trans hd0
      have hlt : w.heap.size + 1 < W.heap.size := (Array.getElem?_eq_some_iff.1 hl).1
      have hy := run_yield (P := Try.prog) (args := #[.slice A (q.getD k zR).1.length x, .slice B (q.getD k zR).2.length d]) hl (by rw [hrec]; exact hps.symm)
      rw [hrec] at hy
      refine ⟨fn, _, assign, body, hy, roundIn_of_wpIn hfn (hassign _ _ _ W _ ?_)⟩
      refine ⟨_, run_beginRound hl (by rw [hrec]), ?_⟩
      have hl2 : (W.putObj (w.heap.size + 1) (.loop { rec .ready none with state := .busy })).heap[w.heap.size + 1]? = some (.loop { rec .ready none with state := .busy }) := World.putObj_heap_same hlt
      have hd2 : (W.putObj (w.heap.size + 1) (.loop { rec .ready none with state := .busy })).heap[w.heap.size]? = some (.deferred (some [])) := (World.putObj_heap_other (by omega)).trans hd
      have ob := only_putObj W (w.heap.size + 1) (.loop { rec .ready none with state := .busy })
      have sz2 : (W.putObj (w.heap.size + 1) (.loop { rec .ready none with state := .busy })).heap.size = W.heap.size := by simp
      have bs2 : ∀ {A : Option Addr} {c : Nat} {L : List UInt8}, Bs W A c L → (∀ ad, A = some ad → W0.heap.size ≤ ad.block) → Bs (W.putObj (w.heap.size + 1) (.loop { rec .ready none with state := .busy })) A c L := fun h hn =>
        (BsN.only (N := fun i => i = w.heap.size + 1) ⟨h, fun _ ad e h2 => by have := hn ad e; omega⟩ ob (fun i _ h => h)).1
      refine wpIn_mono (hbody (w.heap.size + 1) M k W0 W _ A B x d (by omega) (by omega) hk hi (by omega) hMN hBW ⟨_, hl, rfl⟩ ob sz2 (bs2 sa na) (bs2 sb nb) na nb) ?_
      rintro e a3 W3 ⟨rfl, o3, i3⟩
      have hl3 : W3.heap[w.heap.size + 1]? = some (.loop { rec .ready none with state := .busy }) := (o3.block _ (Array.getElem?_eq_some_iff.1 hl2).1 (fun h => by rcases h with h | h; have := hT _ h; omega; omega)).trans hl2
      have hd3 : W3.heap[w.heap.size]? = some (.deferred (some [])) := (o3.block _ (Array.getElem?_eq_some_iff.1 hd2).1 (fun h => by rcases h with h | h; have := hT _ h; omega; omega)).trans hd2
      have hr := run_endRound (P := Try.prog) none hl3
      have f1 : Only W (W.putObj (w.heap.size + 1) (.loop { rec .ready none with state := .busy })) (fun i => (T i ∨ i = w.heap.size + 1) ∨ M ≤ i) := ob.mono (fun i _ h => .inl (.inr h))
      refine ⟨_, _, hr, ?_, rfl, ?_, ?_, ?_⟩
      · exact (f1.then_ o3 (fun i h => .inl (h.elim (fun h => .inl (.inl h)) .inr))).then_ (only_putObj W3 _ _) (fun i h => .inl (.inl (.inr h)))
      · exact ⟨hMM, hIp _ _ _ _ _ _ (by omega) (by omega) hl3 rfl i3⟩
      · exact (World.putObj_heap_same (Array.getElem?_eq_some_iff.1 hl3).1).trans (by rw [hrec]; rfl)
      · exact (World.putObj_heap_other (by omega)).trans hd3
    · rintro e W2 ⟨⟨v, rfl⟩, M, ⟨hMM, hi⟩, hl, hd⟩
      exact ⟨none, _, by have := run_endLoop (P := Try.prog) hl (by rw [hrec]; simp); rw [hrec] at this; exact this, hdone _ M _ (Nat.le_refl _) (hIp _ _ _ _ _ _ (by omega) (by omega) hl rfl hi) ((World.putObj_heap_other (by omega)).trans hd)⟩
end Go.Proofs.Ytnhfeoniiadjfaa.Lst
/- Bytes: the table as bytes. -/
namespace Go.Proofs.Ytnhfeoniiadjfaa.Lst
open Go.RowKit Go.Shelf Go.Maps Go.Proofs.Ytnhfeoniiadjfaa.K Go.Proofs.Ytnhfeoniiadjfaa.Help Go.Proofs.Ytnhfeoniiadjfaa.Pfx Go.Proofs.Ytnhfeoniiadjfaa.Peer
set_option linter.unusedVariables false
attribute [local go_sem] Oper.semAt_some
section
variable {α : Type} {E : Elem α} {P : Program} {ops : Array Oper} {rest : List Oper} {o : Oper} {a : Act} {Q : Exit → Act → World → Prop} {F : Fence} {nF : Nat}
/-- append(v, x): x laid at block g -/
theorem pushIn {B : Nat} {W : World} {N : Nat → Prop} (t ts : TypeId) (z : Value) (bytes : Nat) (hgd : o.guard = none) (s xo : Operand)
    (ho : o.op = .call { callee := .builtin .append, args := #[s, xo], argTypes := #[ts, ts] })
    (ht : P.underlying ts = some (.slice t)) (hinfo : (P.info? t).map (fun i => (i.zero, i.size, i.bytes)) = some (some z, E.sz, bytes)) (hz : z.cells.size = E.sz) (hs0 : 0 < E.sz) (hb1 : 0 < bytes) (hb2 : bytes ≤ 128)
    (v : Value) (l : List α) (x : α) (raw : List Value) (g mc : Nat) (hs : a.eval s = v) (hx : a.eval xo = .slice (some ⟨g, 0, none⟩) 1 mc)
    (HO : OwnL E t W N B v l) (HX : W.heap[g]? = some (.cells raw.toArray t (0, 0))) (hr : E.R W (fun k => N k ∨ v.ownBlock = some k) raw x) (hBW : B ≤ W.heap.size) (hl : l.length ≤ 100000000000)
    (h : ∀ A' c' w1, OwnL E t w1 N B (.slice A' (l.length + 1) c') (l ++ [x]) → Only W w1 (fun k => v.ownBlock = some k) → (∀ k, (Value.slice A' (l.length + 1) c').ownBlock = some k → v.ownBlock = some k ∨ W.heap.size ≤ k) → wpListIn F nF P ops Q rest (a.put o.dst (.slice A' (l.length + 1) c')) w1)
    (hNn : ∀ k, N k → k < W.heap.size) :
    wpListIn F nF P ops Q (o :: rest) a W := by
  obtain ⟨raws, hrl, hown, hm, hR⟩ := HO
  obtain ⟨i0, hi, hzz⟩ := Option.map_eq_some_iff.1 hinfo
  simp only [Prod.mk.injEq] at hzz
  obtain ⟨hz0, hz1, hz2⟩ := hzz
  have hraw := E.len hr
  have hbb : (l.length + 1) * bytes ≤ 140737488355328 := Nat.le_trans (Nat.mul_le_mul (show l.length + 1 ≤ 1000000000000 by omega) hb2) (by decide)
  refine wpListIn_append_own_at W hgd s xo ts ho B t i0 z E.sz bytes ht hi hz0 hz1 hz2 hz hs0 v l.length raws.flatten hs hown ⟨g, 0, none⟩ 1 mc raw hx (by rw [hraw]; omega)
    ?_ (E.one hr) (by simp only [maxLen]; omega) hbb hBW ?_
  · intro j u hu
    rw [addr_add_plain]
    exact (blk_cell HX j).trans (by simpa using hu)
  · intro v1 w1 hown1 hg _ hat
    have k : Only W w1 (fun k => v.ownBlock = some k) := (Only.refl W (fun k => v.ownBlock = some k)).grown hg (fun k hk => .inl hk)
    have hat2 : ∀ k, v1.ownBlock = some k → v.ownBlock = some k ∨ W.heap.size ≤ k := fun k hk => by
      rcases hat with hat | hat
      · exact .inl (by rw [← hat]; exact hk)
      · rw [hat] at hk; exact .inr (by injection hk with hk; omega)
    have hO : OwnL E t w1 N B v1 (l ++ [x]) := by
      refine ⟨raws ++ [raw], by simp [hrl], ?_, by simp; omega, fun i y r hy hw => ?_⟩
      · rw [List.flatten_append, List.flatten_cons, List.flatten_nil, List.append_nil]; simpa using hown1
      · have hT : E.R W (fun k => N k ∨ v.ownBlock = some k) r y := by
          by_cases hii : i < l.length
          · exact hR i y r (by rw [List.getElem?_append_left hii] at hy; exact hy) (by rw [List.getElem?_append_left (by omega)] at hw; exact hw)
          · have e1 : i = l.length := by
              have := (List.getElem?_eq_some_iff.1 hy).1
              simp at this
              omega
            subst e1
            rw [List.getElem?_append_right (by omega), Nat.sub_self] at hy
            rw [List.getElem?_append_right (by omega), hrl, Nat.sub_self] at hw
            simp only [List.getElem?_cons_zero, Option.some.injEq] at hy hw
            subst hy hw
            exact hr
        have hT2 : E.R W (fun k => (N k ∨ v.ownBlock = some k) ∨ v1.ownBlock = some k) r y := E.reno hT (fun k hk => hk.elim .inl (fun h => (hat2 k h).imp .inr id))
        exact E.reno (E.only hT2 k (fun i _ hi => .inl (.inr hi))) (fun k hk => .inl (hk.elim (fun h => .inl (.inl h)) .inr))
    obtain ⟨A', c', e⟩ := OwnL.slice hO
    rw [List.length_append] at e
    subst e
    exact h A' c' w1 hO k hat2
end
def setOf (r : RowD) : SetD := (r.1, r.2, false)
/-- between two rounds: the list's box, the list, the table gone through -/
structure ByI (w w2 : World) (X : Nat) (q : List RowD) (M k : Nat) (v : Value) (W : World) : Prop where
  box : W.heap[X]? = some (.cells #[v] 22 (0, 0))
  own : OwnL SetE 37 W (fun i => i < M) M v ((q.take k).map setOf)
  on : Only w2 W (fun i => i = X)
  be : Below w.heap.size w W
theorem noU8_obj {W : World} {l : Nat} {o : Obj} (h : W.heap[l]? = some o) (hc : o.isCells = false) : NoU8 W l := fun j b => by
  unfold World.cell?
  cases o <;> simp_all [Obj.isCells]
section
variable {w w2 W W' : World} {X g b M k : Nat} {q : List RowD} {v : Value}
theorem ByI.keep (h : ByI w w2 X q M k v W) (hb : Below W.heap.size W W') : ByI w w2 X q M k v W' :=
  ⟨(hb.block _ (blk_lt h.box)).trans h.box, h.own.below hb, h.on.then_ (Only.of_below hb (fun _ => False)) (fun _ h => h.elim), below_step h.be hb⟩
theorem ByI.only {l : Nat} (h : ByI w w2 X q M k v W) (k2 : Only W W' (fun i => i = l)) (hX : X ≠ l) (hM : l < M) (hw : w.heap.size ≤ l) (hw2 : w2.heap.size ≤ l) : ByI w w2 X q M k v W' :=
  ⟨(k2.block _ (blk_lt h.box) hX).trans h.box, h.own.only k2 (fun i hi e => by have := h.own.base_le hi; omega) (fun i _ e => by omega),
    h.on.then_ k2 (fun i e => .inr (by omega)), below_only h.be k2 (fun i e => by omega)⟩
theorem ByI.it (h : ByI w w2 X q M k v W) (hi : TIter w2 g b q) (hX : NoU8 w2 X) (hg : g ≠ X) (hb : b ≠ X) : TIter W g b q :=
  ⟨(h.on.block _ hi.lt hg).trans hi.blk, hi.map.only h.on hb (fun i e hl => by rw [e]; exact hX)⟩
end
set_option maxRecDepth 100000 in
set_option maxHeartbeats 4000000 in
theorem tbytes_any (p b n : Nat) (q : List RowD) (w : World) (h : TTab w p b n q) (hn : n ≤ 100000) :
    Calls Try.prog 28 #[.pointer (some ⟨p, 0, none⟩)] w (fun e w' => ∃ A c, e = .returned (.slice A (putSetsD (q.map setOf)).1.length c) ∧ Bs w' A c (putSetsD (q.map setOf)).1 ∧ Below w.heap.size w w') := by
  have hb1 := below_alloc (Below.refl w.heap.size w) (.cells #[.slice none 0 0] 22)
  have X1 := Lib.hid (blk_new w (.cells #[.slice none 0 0] 22))
  have B1 := Lib.hid hb1
  have AL := Lib.hid (all_any p b n q _ (h.keep hb1) hn)
  have HQ : Hid (q.length ≤ 100000) := Lib.hid (Nat.le_trans h.map.len_le hn)
  clear h hb1
  refine (callsIn_wide (n := 5)).1 ?_
  refine callsIn_of_wp_marks Try.func28 rfl trivial ?_ rfl
  simp only [Try.ntmps28, List.size_toArray, List.length_cons, List.length_nil, Nat.reduceAdd, Nat.reduceSub, Array.replicate_succ, Array.replicate_zero, List.push_toArray, List.append_toArray, List.nil_append, List.cons_append]
  gi_wp2_with fail
  refine ⟨trivial, ?_⟩
  (with_reducible refine (callsIn_wide.2 AL.out).mono ?_)
  rintro e w2 ⟨g, b2, rfl, hg, hb2, hit, hbw⟩
  have BX : Hid (w2.heap[w.heap.size]? = some (.cells #[.slice none 0 0] 22 (0, 0))) := Lib.hid ((hbw.block _ (blk_lt X1.out)).trans X1.out)
  have B2 := Lib.hid (below_step B1.out hbw)
  have hg2 : w.heap.size < g := by simp at hg; omega
  have hb3 : w.heap.size < b2 := by simp at hb2; omega
  have L2 := hit.lt
  have L3 := hit.map.lt
  have L1 := blk_lt BX.out
  have IT := Lib.hid hit
  have NX : Hid (NoU8 w2 w.heap.size) := Lib.hid (NoU8.of BX.out (fun j b h => by rcases j with _ | j <;> simp at h))
  clear hit hbw AL hg hb2
  unfold allFn
  gi_wp2_with fail
  refine wpIn_range_all 5 (by decide) (g := g) (b := b2) (q := q) (w := w2) rfl rfl (Nat.le_trans HQ.out (by decide)) (fun i => i = w.heap.size) (fun i hi => by omega) (enters_of Try.func62 (by kernel_rfl) rfl)
    (fun M k W => ∃ v, ByI w w2 w.heap.size q M k v W) ?h0 ?hI ?hIp ?hIT (fun u v => { tmps := #[.pointer (some ⟨p, 0, none⟩), undef, .slice none 0 0, .pointer (some ⟨w.heap.size, 0, none⟩), u, v, undef, undef, .pointer (some ⟨p, 0, none⟩), allFn g, u, v, undef, undef, undef, undef, undef, undef, undef, undef, undef, undef, undef, undef], defers := [] }) ?hassign ?hbody ?hdone
  case h0 =>
    intro M W hM hb
    exact ⟨_, ⟨(hb.block _ L1).trans BX.out, by rw [List.take_zero]; exact OwnL.nil _ _ _ _ _, (Only.of_below hb (fun i => i = w.heap.size)), below_step B2.out hb⟩⟩
  case hI => exact fun M k W W' ⟨v, h⟩ hb => ⟨v, h.keep hb⟩
  case hIp => exact fun M k W l o o' hl hM ho hc ⟨v, h⟩ => ⟨v, h.only (only_putObj W l o') (by omega) hM (by have := B2.out.size; omega) hl⟩
  case hIT => exact fun M k W ⟨v, h⟩ => h.it IT.out NX.out (by omega) (by omega)
  case hassign =>
    intro l u v W K hK
    gi_wp2_with fail
    exact hK
  case hbody =>
    intro l M k W0 W Wb A B x d hl hlM hk ⟨v, hv⟩ hM hM0 hBW ⟨o, ho, hoc⟩ ob hsz sa sb na nb
    have hX0 := fun i (hi : v.ownBlock = some i) => hv.own.lt hi
    have h2 := (hv.keep hBW).only ob (by omega) hlM (by have := B2.out.size; omega) hl
    have htk : (q.take (k + 1)).map setOf = (q.take k).map setOf ++ [setOf (q.getD k zR)] := by
      rw [List.take_succ_eq_append_getElem hk, List.map_append]; simp [hk]
    have hal : ((q.take k).map setOf).length = k := by simp; omega
    obtain ⟨A0, c0, rfl⟩ := h2.own.slice
    have hbx := h2.box
    have hown := h2.own
    generalize (q.take k).map setOf = acc at *
    obtain ⟨⟨kx, vx⟩, hx⟩ : ∃ y, q.getD k zR = y := ⟨_, rfl⟩
    rw [hx] at sa sb htk
    rw [hx]
    dsimp only at sa sb
    have hb4 := below_alloc (Below.refl Wb.heap.size Wb) (.cells #[.slice A kx.length x, .slice B vx.length d, .bool false] 37)
    have X4 := Lib.hid (blk_new Wb (.cells #[.slice A kx.length x, .slice B vx.length d, .bool false] 37))
    have H4 := Lib.hid (h2.keep hb4)
    have O4 := Lib.hid (hown.below hb4)
    have E4 : Hid (SetE.R (Wb.alloc (.cells #[.slice A kx.length x, .slice B vx.length d, .bool false] 37)) (fun i => i < M ∨ (Value.slice A0 acc.length c0).ownBlock = some i) [.slice A kx.length x, .slice B vx.length d, .bool false] (kx, vx, false)) :=
      Lib.hid ⟨A, x, B, d, rfl, ⟨sa.below hb4, fun _ ad e h => by have := na ad e; rcases h with h | h; omega; have := hX0 _ h; omega⟩, ⟨sb.below hb4, fun _ ad e h => by have := nb ad e; rcases h with h | h; omega; have := hX0 _ h; omega⟩⟩
    have f0 := (blk_cell hbx 0).trans (b := some (Value.slice A0 acc.length c0)) rfl
    have HT := Lib.hid htk
    have HA := Lib.hid hal
    have HB := Lib.hid hb4
    have BS : Hid (M ≤ (Wb.alloc (.cells #[.slice A kx.length x, .slice B vx.length d, .bool false] 37)).heap.size) := Lib.hid (by have := hBW.size; have := hb4.size; omega)
    clear hv hX0 h2 htk hbx hown hb4 hx ob na nb sa sb ho hoc hBW hal hsz
    generalize hm : acc.length = m at *
    have HML := Lib.hid hm
    clear hm
    gi_wp2_with (gi_at_builtin; refine pushIn (E := SetE) 37 22 _ 56 rfl (.tmp 12) (.tmp 16) rfl Try.underlying22 info_set rfl (by decide) (by decide) (by decide) (.slice A0 m c0) acc (kx, vx, false) [.slice A kx.length x, .slice B vx.length d, .bool false] Wb.heap.size 1 rfl rfl O4.out X4.out E4.out BS.out (by have := HQ.out; have := HML.out; have := HA.out; omega) ?_ (fun i hi => by have := BS.out; omega); intro A5 c5 w5 o5 k5 n5; rw [HML.out] at o5 n5 ⊢; have O5 := Lib.hid o5; have K5 := Lib.hid k5; have HB5 := Lib.hid (k5.blk H4.out.box (fun e => by have := O4.out.base_le e; omega)); have f5 := (blk_cell HB5.out 0).trans (b := some (Value.slice A0 m c0)) rfl; have z5 := blk_free HB5.out 0; clear o5 k5)
    have OS := Lib.hid ((Only.refl w5 (fun i => i = w.heap.size)).setCell (p := ⟨w.heap.size, 0, none⟩) (.inl rfl) (.slice A5 (m + 1) c5))
    refine ⟨((Only.of_below HB.out (fun i => i = w.heap.size ∨ M ≤ i)).then_ K5.out (fun i hi => .inl (.inr (O4.out.base_le hi)))).then_ OS.out (fun i hi => .inl (.inl hi)), _, ⟨blk_set HB5.out 0 _, ?_, ?_, ?_⟩⟩
    · rw [HT.out]; exact O5.out.only OS.out (fun i hi e => by have := O5.out.base_le hi; omega) (fun i _ e => by omega)
    · exact (H4.out.on.then_ K5.out (fun i hi => .inr (by have := O4.out.base_le hi; omega))).then_ OS.out (fun i hi => .inl hi)
    · exact below_only (below_only H4.out.be K5.out (fun i hi => by have := O4.out.base_le hi; have := B2.out.size; omega)) OS.out (fun i hi => by omega)
  case hdone =>
    intro D M W hD ⟨v, hv⟩ hd
    have e0 : q.take q.length = q := List.take_length
    have hown := hv.own
    rw [e0] at hown
    obtain ⟨A0, c0, rfl, hl⟩ := (hown.reno (N' := fun _ => False) (fun i h => h.elim)).lst (fun _ _ h => h)
    have f0 := (blk_cell hv.box 0).trans (b := some (Value.slice A0 (q.map setOf).length c0)) rfl
    have PS := Lib.hid (putSets_any A0 c0 (q.map setOf) W hl (by rw [List.length_map]; exact HQ.out))
    have BE := Lib.hid hv.be
    have HD := Lib.hid hd
    clear hown hl hv hd e0
    generalize hL : q.map setOf = L at *
    have HL := Lib.hid hL
    clear hL
    generalize L.length = m at *
    gi_wp2_with fail
    refine ⟨trivial, ?_⟩
    (with_reducible refine (callsIn_wide.2 PS.out).mono ?_)
    rintro e w5 ⟨B5, d5, rfl, s5, hb5, -⟩
    have HD5 := (hb5.block _ (Array.getElem?_eq_some_iff.1 HD.out).1).trans HD.out
    have BE5 := Lib.hid (below_step BE.out hb5)
    have S5 := Lib.hid s5
    clear hb5 s5
    gi_wp2_with fail
    refine ⟨by simp, .inl ⟨_, _, rfl, run_takeDeferred HD5, ?_⟩⟩
    rw [HL.out]
    exact ⟨_, results_tmp rfl _ _ _, _, _, rfl, bs_only S5.out (only_putObj w5 D (.deferred none)) (fun i e _ => by rw [e]; exact noU8_obj HD5 rfl), below_only BE5.out (only_putObj w5 D (.deferred none)) (fun i e => by have := B2.out.size; omega)⟩
end Go.Proofs.Ytnhfeoniiadjfaa.Lst
/- The walk of TableFold. -/
namespace Go.Proofs.Ytnhfeoniiadjfaa.tableFold
open Go.RowKit Go.Proofs.Ytnhfeoniiadjfaa.K Go.Proofs.Ytnhfeoniiadjfaa.Help Go.Proofs.Ytnhfeoniiadjfaa.Lst Go.Proofs.Ytnhfeoniiadjfaa.Peer
set_option linter.unusedVariables false

theorem rises {l : List RowD} (h : Srt l) {k : Nat} (hk : k + 1 < l.length) : lessB (l.getD k zR).1 (l.getD (k + 1) zR).1 = true := by
  rw [lessB_iff, decide_eq_true_eq]
  have := List.pairwise_iff_getElem.1 h k (k + 1) (by omega) hk (by omega)
  rwa [show l.getD k zR = l[k] by simp [show k < l.length by omega], show l.getD (k + 1) zR = l[k + 1] by simp [hk]]
theorem getD_memR {l : List RowD} {k : Nat} (hk : k < l.length) : l.getD k zR ∈ l := by
  rw [show l.getD k zR = l[k] by simp [hk]]
  exact List.getElem_mem _
theorem getD_memS {l : List SetD} {k : Nat} (hk : k < l.length) : l.getD k zeroSet ∈ l := by
  rw [show l.getD k zeroSet = l[k] by simp [hk]]
  exact List.getElem_mem _
set_option maxRecDepth 100000 in
set_option maxHeartbeats 8000000 in
theorem walk (A : Option Addr) (a : Nat) (l : List SetD) (fr : Int) (_ : -9223372036854775808 ≤ fr) (_ : fr ≤ 9223372036854775807) (by_ : Int) (_ : -9223372036854775808 ≤ by_) (_ : by_ ≤ 9223372036854775807) (W : World) (hs : Lst SetE W (fun _ => False) A a l) :
    Calls Try.prog 4 #[.slice A l.length a, .int .i64 fr, .int .i64 by_] W fun e W' => e = .returned (.bool true) ∧ Below W.heap.size W W' := by
  have h1 := hs.le
  have h2 := hs.max
  have P1 := Lib.hid (first13_any W)
  have S0 := hstart hs
  clear hs
  obtain ⟨n0, hn0⟩ : ∃ n, n = l.length := ⟨_, rfl⟩
  rw [← hn0]
  have HN0 := Lib.hid hn0
  clear hn0 h1 h2
  go_enter Try.func4, Try.ntmps4
  go_wp2_with fail
  (with_reducible refine P1.out.mono ?_)
  rintro e w1 ⟨rfl, hb1⟩
  have S1 := hand (hkeep hb1 S0) hb1
  clear hb1 S0 P1
  have P2 : Hid (Calls Try.prog 19 #[.slice A n0 a, .int .i64 2000] w1 (RetFt w1 (fitD l 2000))) := by
    have := fit_any A a l 2000 w1 S1.out.2.1 (by decide)
    rw [← HN0.out] at this
    exact Lib.hid this
  have HFA := Lib.hid (fitD_all l 2000)
  have HFL := Lib.hid (fitD_len l 2000)
  generalize fitD l 2000 = L at *
  clear HN0
  go_wp2_with fail
  (with_reducible refine P2.out.mono ?_)
  rintro e w2 ⟨A2, a2, rfl, o2, hb2⟩
  obtain ⟨A2', a2', e2, l2⟩ := o2.lst (fun _ _ h => h)
  cases e2
  have S2 := hstart (And.intro l2 (below_step S1.out.1 hb2))
  have P3 := Lib.hid (built_any A2 a2 L w2 l2 (by have := HFL.out; omega) HFA.out)
  have hle := l2.le
  have hmax := l2.max
  clear o2 l2 hb2 S1 P2
  obtain ⟨T, hT⟩ : ∃ T, T = appL [] L := ⟨_, rfl⟩
  have HT := Lib.hid hT
  rw [← hT] at P3
  clear hT
  obtain ⟨n, hn⟩ : ∃ n, n = L.length := ⟨_, rfl⟩
  have HN := Lib.hid hn
  rw [← hn] at P3 hle ⊢
  have hnb : n ≤ 2000 := by rw [hn]; exact HFL.out
  clear hn
  go_wp2_with fail
  (with_reducible refine P3.out.mono ?_)
  rintro e w3 ⟨pt, bt, rfl, t3, hp3, hbt3, hb3⟩
  have S3 := hand (hkeep hb3 S2) t3
  have HPT : Hid (W.heap.size ≤ bt) := Lib.hid (Nat.le_trans S2.out.1.2.size hbt3)
  have P4 : Hid (Calls Try.prog 20 #[.slice none 0 0] w3 (RetB w3 [] 0)) := Lib.hid (built_any none 0 [] w3 (Lst.nil _ _) (by simp) rfl)
  clear t3 hp3 hbt3 hb3 S2 P3
  go_wp2_with fail
  (with_reducible refine P4.out.mono ?_)
  rintro e w4 ⟨pu, bu, rfl, t4, hp4, hbu4, hb4⟩
  have NB : NeN bt bu := ⟨by have := S3.out.1.map.lt; omega⟩
  have HBU : Hid (W.heap.size ≤ bu) := Lib.hid (Nat.le_trans S3.out.2.1.2.size hbu4)
  have S4 := hkeep hb4 S3
  have T4 := Lib.hid t4
  clear t4 hp4 hbu4 hb4 S3 P4
  go_wp2_with fail
  go_loopg [12] n (fun gk i wr => ∃ k : Nat, k ≤ n ∧ gk = n - k ∧ i = .int .i64 (k : Int) ∧ Hid (TTab wr pu bu k (appL [] (L.take k))) ∧ Hid (Only w4 wr (fun i => i = bu)))
  case atStart => exact ⟨0, by omega, rfl, rfl, by rw [List.take_zero]; exact T4, Only.refl _ _⟩
  case round =>
    obtain ⟨k, hk, rfl, rfl, HTU, HO⟩ := hrel
    have Sr := mkeep HO.out T4.out.map.isMap HBU.out S4
    by_cases hlt : k < n
    · have i1 : (k : Int) < (n : Int) := by omega
      have i0 : (0 : Int) ≤ (k : Int) := by omega
      obtain ⟨bk, off, A1, a1, B1, b1, rfl, -, -, -, -, -, -⟩ := Sr.out.2.1.1.set k _ (getD_get zeroSet (by rw [← HN.out]; exact hlt))
      have R1 := fun W => run_oneS (bk := bk) (off := off) (c := a2) hlt (by omega) _ rfl W
      have HL1 := Lib.hid (Sr.out.2.1.1.one (k := k) (by rw [← HN.out]; exact hlt))
      have AP : Hid (Calls Try.prog 21 #[.pointer (some ⟨pu, 0, none⟩), .slice (some ⟨bk, off + k * 3, none⟩) 1 (a2 - k)] wr (RetA wr pu bu k (appL [] (L.take k)) [L.getD k zeroSet])) := Lib.hid (apply_any pu bu k (appL [] (L.take k)) _ _ [L.getD k zeroSet] wr HTU.out HL1.out (by omega) (by simp))
      have HAL : Hid ([L.getD k zeroSet].all mayB = true) := Lib.hid (by
        rw [List.all_cons, List.all_nil, Bool.and_true]
        exact List.all_eq_true.1 HFA.out _ (getD_memS (by rw [← HN.out]; exact hlt)))
      have HAT : Hid (appL (appL [] (L.take k)) [L.getD k zeroSet] = appL [] (L.take (k + 1))) := Lib.hid (by rw [← appL_app, ← take_getS L k (by rw [← HN.out]; exact hlt)])
      clear HL1 Sr
      go_wp2_with fail
      (with_reducible refine AP.out.mono ?_)
      rintro e w5 (⟨-, rfl, t5, k5⟩ | ⟨hf, -, -⟩)
      rotate_left
      · exact absurd (HAL.out.symm.trans hf) (by decide)
      have T5 : Hid (TTab w5 pu bu (k + 1) (appL [] (L.take (k + 1)))) := Lib.hid (by rw [← HAT.out]; exact t5)
      have K5 := Lib.hid (HO.out.then_ k5 (fun i h => .inl h))
      clear t5 k5 AP R1
      go_wp2_with fail
      (with_reducible refine (num13_any _ _).mono ?_)
      rintro e wq ⟨rfl, rfl⟩
      go_wp2_with fail
      go_roundg (n - (k + 1))
      case measure => omega
      case rel => exact ⟨k + 1, by omega, rfl, by go_num, T5, K5⟩
    · obtain rfl : k = n := by omega
      have i1 : ¬ (k : Int) < (k : Int) := by omega
      have TU : Hid (TTab wr pu bu k T) := Lib.hid (by have := HTU.out; rwa [HN.out, List.take_length, ← HN.out, ← HT.out] at this)
      have S5 := hand Sr TU.out
      have HTLE := Lib.hid TU.out.map.len_le
      clear TU T4 S4 Sr HO HTU
      have P5 := Lib.hid (len_any pt bt k T wr S5.out.2.1)
      obtain ⟨m, hm⟩ : ∃ m, m = T.length := ⟨_, rfl⟩
      have HM := Lib.hid hm
      have hmk : m ≤ k := by rw [hm]; exact HTLE.out
      clear HTLE
      have P6 : Hid (Calls Try.prog 23 #[.pointer (some ⟨pt, 0, none⟩), .int .i64 (m : Int)] wr (RetL RowE wr T)) := by
        have := rows_tab pt bt k T (m : Int) wr S5.out.2.1 (by omega) (by omega) (by omega)
        rw [List.take_of_length_le (by rw [← hm]; omega)] at this
        exact Lib.hid this
      rw [← hm] at P5
      clear hm
      go_wp2_with fail
      (with_reducible refine P5.out.mono ?_)
      rintro e wq ⟨rfl, rfl⟩
      go_wp2_with fail
      (with_reducible refine P6.out.mono ?_)
      rintro e w6 ⟨A6, a6, rfl, l6, hb6⟩
      have S6 := hand (hkeep hb6 S5) l6
      have r1 := l6.le
      have r2 := l6.max
      clear l6 hb6 S5 P5 P6
      rw [← HM.out] at r1 ⊢
      have hne : ((m : Int) != (m : Int)) = false := by simp
      go_wp2_with fail
      go_loopg [16] m (fun gk i wr => ∃ q : Nat, q ≤ m ∧ gk = m - q ∧ i = .int .i64 (q : Int) ∧ Hid (Below w6.heap.size w6 wr))
      case atStart => exact ⟨0, by omega, rfl, rfl, Below.refl _ _⟩
      case round =>
        obtain ⟨q, hq, rfl, rfl, HB⟩ := hrel
        have Sr := hkeep HB.out S6
        by_cases hlt : q < m
        · have i2 : (q : Int) < (m : Int) := by omega
          have i0 : (0 : Int) ≤ (q : Int) := by omega
          have HQT : Hid (q < T.length) := Lib.hid (by rw [← HM.out]; exact hlt)
          obtain ⟨bk, off, A1, a1, B1, b1, rfl, hbk, d0, d1, s1, s2⟩ := Sr.out.1.row q _ (getD_get zR HQT.out)
          have HLR := Lib.hid (last_row L (r := T.getD q zR) (by rw [← HT.out]; exact getD_memR HQT.out))
          rw [← HT.out] at HLR
          have LA := Lib.hid (last_any _ A1 _ a1 L (T.getD q zR).1 wr Sr.out.2.2.2.1.1 s1.1)
          have RS := Lib.hid (fun (h : 1 ≤ q) => rises (l := T) (k := q - 1) (by rw [HT.out]; exact appL_srt L) (by have := HQT.out; omega))
          obtain ⟨⟨xk, xv⟩, hx⟩ : ∃ y, T.getD q zR = y := ⟨_, rfl⟩
          have HX := Lib.hid hx
          rw [hx] at d0 d1 s1 s2 HLR LA
          dsimp only at d0 d1 s1 s2 HLR LA
          have D0 := Lib.hid d0
          have D1 := Lib.hid d1
          have S1 := Lib.hid s1.1
          have S2' := Lib.hid s2.1
          have HBK := Lib.hid hbk
          clear d1 s1 s2 hbk hx
          rw [← HN.out] at LA
          unfold RetLast at LA
          rw [HLR.out.1, HLR.out.2.1] at LA
          go_wp2_with fail
          (with_reducible refine LA.out.mono ?_)
          rintro e w7 ⟨B7, b7, rfl, s7, hb7⟩
          have HB7 := Lib.hid hb7
          have S7 := hand (hkeep hb7 Sr) s7
          have c0 := S7.out.2.2.2.1.cell
          have d0 := (HB7.out.cell (p := ⟨bk, _, none⟩) HBK.out).trans D0.out
          have HD7 : Hid (Below w7.heap.size w7 w7.drew) := Lib.hid (below_drewN (Below.refl _ _) 1)
          have GT := Lib.hid (get_any bt _ T A1 a1 xk w7.drew (S7.out.2.2.2.1.keep HD7.out).map ((S1.out.below HB7.out).below HD7.out))
          rw [HLR.out.2.2.1, HLR.out.2.2.2] at GT
          have HPT7 := Lib.hid S7.out.2.2.2.1.lt
          have HBK7 : Hid (bk < w7.heap.size) := Lib.hid (Nat.lt_of_lt_of_le HBK.out HB7.out.size)
          clear s7 hb7 LA
          go_wp2_with fail
          go_region_held3 (fun w' => w'.cell? ⟨pt, 0, none⟩ = some (.map (some bt)) ∧ w'.cell? ⟨bk, off + q * 2, none⟩ = some (.slice A1 xk.length a1)) (first | exact ⟨g0, g1⟩ | go_keep)
            (first | (go_at_call 25; refine GT.out.mono ?_; rintro e w8 ⟨B8, d8, rfl, s8, hb8, -⟩; have B8' := Lib.hid (below_step HD7.out hb8); have S8 := hand (hkeep B8'.out S7) s8; have g0 : w8.cell? ⟨pt, 0, none⟩ = some (.map (some bt)) := (B8'.out.cell (p := ⟨pt, _, none⟩) HPT7.out).trans c0; have g1 : w8.cell? ⟨bk, off + q * 2, none⟩ = some (.slice A1 xk.length a1) := (B8'.out.cell (p := ⟨bk, _, none⟩) HBK7.out).trans d0; clear s8 hb8))
          all_goals
            have HB8 := Lib.hid (below_step HB7.out B8'.out)
            have e1 := (HB8.out.cell (p := ⟨bk, _, none⟩) HBK.out).trans D1.out
            have P8 := Lib.hid (Help.sameBytes B7 B1 b7 b1 xv xv w8 S8.out.2.1 (S2'.out.below HB8.out))
            rw [show decide (xv = xv) = true by simp] at P8
            clear g0 g1 c0 d0 GT
            go_wp2_with fail
            (with_reducible refine P8.out.mono ?_)
            rintro e w9 ⟨q9, rfl, rfl⟩
            have hb9 := below_drewN (Below.refl w8.heap.size w8) q9
            have HB9 := Lib.hid (below_step HB8.out hb9)
            have S9 := hkeep hb9 S8
            generalize w8.drewN q9 = w9 at *
            have P9 := Lib.hid (Help.sameBytes B8 B7 d8 b7 xv xv w9 S9.out.1 S9.out.2.1)
            rw [show decide (xv = xv) = true by simp] at P9
            clear e1 P8 hb9 S8
            go_wp2_with fail
            (with_reducible refine P9.out.mono ?_)
            rintro e w10 ⟨q10, rfl, rfl⟩
            have hb10 := below_drewN (Below.refl w9.heap.size w9) q10
            have HB10 := Lib.hid (below_step HB9.out hb10)
            generalize w9.drewN q10 = w10 at *
            clear hb10 S9 P9
            rcases Nat.eq_zero_or_pos q with hq0 | hq0
            · subst hq0
              go_wp2_with fail
              go_quiet (fail)
              have HBn := Lib.hid (below_step HB.out (below_drewN HB10.out nq))
              go_wp2_with fail
              go_roundg (m - (0 + 1))
              case measure => omega
              case rel => exact ⟨0 + 1, by omega, rfl, by go_num, HBn⟩
            · obtain ⟨j, rfl⟩ : ∃ j, q = j + 1 := ⟨q - 1, by omega⟩
              have HLS := RS.out (by omega)
              rw [Nat.add_sub_cancel, HX.out] at HLS
              obtain ⟨bk2, off2, A3, a3, B3, b3, e3, hbk3, f0, -, s3, -⟩ := Sr.out.1.row j _ (getD_get zR (by have := HQT.out; omega))
              cases e3
              have x0 := (HB10.out.cell (p := ⟨bk, _, none⟩) HBK.out).trans f0
              have x1 := (HB10.out.cell (p := ⟨bk, _, none⟩) HBK.out).trans D0.out
              have VL := Lib.hid (fun n => less_any A3 A1 a3 a1 (T.getD j zR).1 xk (w10.drewN n) ((s3.1.below HB10.out).drewN n) ((S1.out.below HB10.out).drewN n))
              rw [HLS] at VL
              have j1 : (0 : Int) < ((j + 1 : Nat) : Int) := by omega
              clear f0 s3 HLS
              go_wp2_with fail
              go_quiet ((go_at_call 26; exact quiet_at0 (VL.out _)))
              have HBn := Lib.hid (below_step HB.out (below_drewN HB10.out nq))
              go_wp2_with fail
              go_roundg (m - ((j + 1) + 1))
              case measure => omega
              case rel => exact ⟨(j + 1) + 1, by omega, rfl, by go_num, HBn⟩
        · obtain rfl : q = m := by omega
          have i2 : ¬ (q : Int) < (q : Int) := by omega
          clear S6 HB
          have S7 := Sr
          clear Sr
          obtain ⟨w7, hw7⟩ : ∃ w7 : World, w7 = wr := ⟨_, rfl⟩
          rw [← hw7] at S7 ⊢
          clear hw7
          go_wp2_with fail
          go_loopg [22] k (fun gk i wr => ∃ z : Nat, z ≤ k ∧ gk = k - z ∧ i = .int .i64 (z : Int) ∧ Hid (Below w7.heap.size w7 wr))
          case atStart => exact ⟨0, by omega, rfl, rfl, Below.refl _ _⟩
          case round =>
            obtain ⟨z, hz, rfl, rfl, HB⟩ := hrel
            have Sr := hkeep HB.out S7
            by_cases hlt : z < k
            · have i3 : (z : Int) < (k : Int) := by omega
              have i0 : (0 : Int) ≤ (z : Int) := by omega
              obtain ⟨bk, off, A1, a1, B1, b1, rfl, hbk, d0, -, -, s1, -⟩ := Sr.out.2.2.2.1.1.set z _ (getD_get zeroSet (by rw [← HN.out]; exact hlt))
              have HLR := Lib.hid (has_last L (L.getD z zeroSet).1)
              rw [← HT.out] at HLR
              have LA := Lib.hid (last_any _ A1 _ a1 L (L.getD z zeroSet).1 wr Sr.out.2.2.2.1.1 s1.1)
              generalize (L.getD z zeroSet).1 = xk at *
              generalize lastD L xk = o at *
              rw [← HN.out] at LA
              unfold RetLast at LA
              rw [← HLR.out] at LA
              have D0 := Lib.hid d0
              have S1 := Lib.hid s1.1
              have HBK := Lib.hid hbk
              clear s1 hbk HLR
              go_wp2_with fail
              (with_reducible refine LA.out.mono ?_)
              rintro e w8 ⟨B8, b8, rfl, -, hb8⟩
              have HB8 := Lib.hid hb8
              have S8 := hkeep hb8 Sr
              have c0 := S8.out.2.2.1.cell
              have d0 := (HB8.out.cell (p := ⟨bk, _, none⟩) HBK.out).trans D0.out
              have HD8 : Hid (Below w8.heap.size w8 w8.drew) := Lib.hid (below_drewN (Below.refl _ _) 1)
              have GT := Lib.hid (get_any bt _ T A1 a1 xk w8.drew (S8.out.2.2.1.keep HD8.out).map ((S1.out.below HB8.out).below HD8.out))
              have HPT8 := Lib.hid S8.out.2.2.1.lt
              have HBK8 : Hid (bk < w8.heap.size) := Lib.hid (Nat.lt_of_lt_of_le HBK.out HB8.out.size)
              generalize hasK T xk = hk at *
              generalize Lst.valOf T xk = xv at *
              clear hb8 LA
              go_wp2_with fail
              go_region_held3 (fun w' => w'.cell? ⟨pt, 0, none⟩ = some (.map (some bt)) ∧ w'.cell? ⟨bk, off + z * 3, none⟩ = some (.slice A1 xk.length a1)) (first | exact ⟨g0, g1⟩ | go_keep)
                (first | (go_at_call 25; refine GT.out.mono ?_; rintro e w9 ⟨B9, d9, rfl, -, hb9, -⟩; have B9' := Lib.hid (below_step HD8.out hb9); have g0 : w9.cell? ⟨pt, 0, none⟩ = some (.map (some bt)) := (B9'.out.cell (p := ⟨pt, _, none⟩) HPT8.out).trans c0; have g1 : w9.cell? ⟨bk, off + z * 3, none⟩ = some (.slice A1 xk.length a1) := (B9'.out.cell (p := ⟨bk, _, none⟩) HBK8.out).trans d0; clear hb9))
              all_goals
                have HBn := Lib.hid (below_step HB.out (below_step HB8.out B9'.out))
                have hne2 : (hk != hk) = false := by simp
                clear g0 g1 c0 d0
                go_wp2_with fail
                go_roundg (k - (z + 1))
                case measure => omega
                case rel => exact ⟨z + 1, by omega, rfl, by go_num, HBn⟩
            · obtain rfl : z = k := by omega
              have i3 : ¬ (z : Int) < (z : Int) := by omega
              clear S7 HB
              have TN := Lib.hid (turned13_any A6 a6 T fr by_ wr Sr.out.1 (by rw [← HM.out]; omega))
              rw [← HM.out] at TN
              go_wp2_with fail
              (with_reducible refine TN.out.mono ?_)
              rintro e w8 ⟨tf, tb, A8, a8, hg, rfl, l8, hb8⟩
              have S8 := hkeep hb8 Sr
              have HTA := Lib.hid (turned_app (l := T) (f := tf) (by rw [HT.out]; exact appL_srt L) hg)
              have BU := Lib.hid (built_any A8 a8 (turnD T tf tb T.length) w8 l8 (by rw [turnD_len, ← HM.out]; omega) (turnD_may (by rw [HT.out]; exact rmay_appL rmay_nil HFA.out) hg))
              have HTL := Lib.hid (turnD_len T tf tb T.length)
              generalize turnD T tf tb T.length = tu at *
              rw [HTA.out] at BU
              rw [HTL.out, ← HM.out] at BU
              rw [HTL.out, ← HM.out]
              clear hg l8 hb8 Sr TN
              go_wp2_with fail
              (with_reducible refine BU.out.mono ?_)
              rintro e w9 ⟨pw, bw, rfl, t9, -, -, hb9⟩
              have S9 := hand (hkeep hb9 S8) t9
              have Q1 := Lib.hid (tbytes_any pt bt _ T w9 S9.out.2.2.2.1 (by omega))
              clear t9 hb9 S8 BU
              have Q2 := Lib.hid (fun w h => tbytes_any pu bu _ T w h (show z ≤ 100000 by omega))
              have Q3 := Lib.hid (fun w h => tbytes_any pw bw _ T w h (show q ≤ 100000 by omega))
              generalize (putSetsD (T.map setOf)).1 = tb8 at *
              go_wp2_with fail
              (with_reducible refine Q1.out.mono ?_)
              rintro e w10 ⟨A10, c10, rfl, s10, hb10⟩
              have S10 := hand (hkeep hb10 S9) s10
              clear s10 hb10 S9 Q1
              go_wp2_with fail
              (with_reducible refine (Q2.out w10 S10.out.2.2.2.1).mono ?_)
              rintro e w11 ⟨A11, c11, rfl, s11, hb11⟩
              have S11 := hand (hkeep hb11 S10) s11
              clear s11 hb11 S10 Q2
              go_wp2_with fail
              (with_reducible refine (Q3.out w11 S11.out.2.2.1).mono ?_)
              rintro e w12 ⟨A12, c12, rfl, s12, hb12⟩
              have S12 := hand (hkeep hb12 S11) s12
              clear s12 hb12 S11 Q3
              have P8 := Lib.hid (Help.sameBytes A10 A11 c10 c11 tb8 tb8 w12 S12.out.2.2.1 S12.out.2.1)
              rw [show decide (tb8 = tb8) = true by simp] at P8
              go_wp2_with fail
              (with_reducible refine P8.out.mono ?_)
              rintro e w13 ⟨q13, rfl, rfl⟩
              have S13 := hkeep (below_drewN (Below.refl w12.heap.size w12) q13) S12
              generalize w12.drewN q13 = w13 at *
              have P9 := Lib.hid (Help.sameBytes A10 A12 c10 c12 tb8 tb8 w13 S13.out.2.2.1 S13.out.1)
              rw [show decide (tb8 = tb8) = true by simp] at P9
              clear P8 S12
              go_wp2_with fail
              (with_reducible refine P9.out.mono ?_)
              rintro e w14 ⟨q14, rfl, rfl⟩
              have BF := Lib.hid (below_drewN S13.out.2.2.2.2.2.2.2.1.2 q14)
              generalize w13.drewN q14 = w14 at *
              clear P9 S13
              go_wp2_with fail
              exact bodyPost_ret (v := .bool true) (by simp [results, Try.results4, go_sem]) rfl ⟨rfl, BF.out⟩
end Go.Proofs.Ytnhfeoniiadjfaa.tableFold
