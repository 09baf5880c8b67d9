/- Contracts of the functions that RowsPlace reaches: part 5 of 7. -/
import Derived.Test.YtafdhccdjbfepaaGreatRowsPlaceB4
import Derived.Laws.IdiomStrings
import Derived.Carry
import Derived.Lib.BytesEntry
import Derived.Lib.Bytealg
import Derived.Shelf.SlSortCmp.WholeK
import Derived.Shelf.SlSortCmp.NoneTotal
import Derived.Deep.RegionHeld3
import Derived.Deep.RegionLaw
import Derived.Sort.Walk0
import Derived.Laws.Cover1
import Derived.IntWalk
import Derived.Lib.SmallJoins
import Derived.Lib.SlBytesConst
import Derived.Laws.BitsAllLaws
/- What the program's State answers, plain; what has been gathered; []byte(s). -/
namespace Go.Proofs.YtafdhccdjbfepaaGreat.Lst
open Go.RowKit Go.Proofs.YtafdhccdjbfepaaGreat.K Go.Proofs.YtafdhccdjbfepaaGreat.Help Go.Proofs.YtafdhccdjbfepaaGreat.Pfx Go.Proofs.YtafdhccdjbfepaaGreat.Peer
set_option linter.unusedVariables false

abbrev T3 := List PeerD × List LaneD × Int
/-- one row -/
noncomputable def stepO (s : T3) (k v : List UInt8) : Option T3 :=
  match k with
  | [] => none
  | c :: _ =>
    if c = 80 then (if (peerGet k v).2 = 0 then some (s.1 ++ [(peerGet k v).1], s.2.1, s.2.2) else none)
    else if c = 76 then (if (laneGet k v).2 = 0 then some (s.1, s.2.1 ++ [(laneGet k v).1], s.2.2) else none)
    else if c = 66 then (if (bootsGet k v).2 = 0 then some (s.1, s.2.1, (bootsGet k v).1) else none)
    else none
def valOf (l : List RowD) (k : List UInt8) : List UInt8 := match l.find? (fun r => r.1 == k) with | some r => r.2 | none => []
noncomputable def stepK (l : List RowD) (s : Option T3) (k : List UInt8) : Option T3 := match s with | none => none | some s => stepO s k (valOf l k)
def keysL (l : List RowD) : List (List UInt8) := (l.map Prod.fst).mergeSort (fun x y => decide (x ≤ y))
noncomputable def foldK (l : List RowD) : Option T3 := (keysL l).foldl (stepK l) (some ([], [], 0))
noncomputable def ansK (o : Option T3) : AnsD := match o with | none => ([], [], 0, 114) | some s => if wholeB s.1 s.2.1 = true then (s.1, s.2.1, s.2.2, 0) else ([], [], 0, 114)
open Classical in
noncomputable def progState (l : List RowD) : AnsD := if (l.map Prod.fst).Nodup then ansK (foldK l) else ([], [], 0, 114)
theorem foldK_none (l : List RowD) : ∀ ks : List (List UInt8), ks.foldl (stepK l) none = none
  | [] => rfl
  | k :: t => foldK_none l t
theorem foldK_step (l : List RowD) (ks : List (List UInt8)) (s : Option T3) (j : Nat) (hj : j < ks.length) : (ks.take (j + 1)).foldl (stepK l) s = stepK l ((ks.take j).foldl (stepK l) s) (ks.getD j []) := by
  rw [List.take_succ_eq_append_getElem hj, List.foldl_append]
  simp [hj]
theorem foldK_stop (l : List RowD) (ks : List (List UInt8)) (s : Option T3) (j : Nat) (h : (ks.take j).foldl (stepK l) s = none) : ks.foldl (stepK l) s = none := by
  rw [← List.take_append_drop j ks, List.foldl_append, h, foldK_none]
/-- what has been gathered of l -/
def GOf (w : World) (l : List RowD) (rs : List GRow) : Prop := rs.length = l.length ∧ ∀ (i : Nat) (x : RowD), l[i]? = some x → ∃ B b, rs[i]? = some (x.1, .slice B x.2.length b) ∧ Bs w B b x.2
theorem GOf.nil (w : World) : GOf w [] [] := ⟨rfl, fun i x h => by simp at h⟩
theorem GOf.snoc {w : World} {l : List RowD} {rs : List GRow} (h : GOf w l rs) {x : RowD} {B : Option Addr} {b : Nat} (hb : Bs w B b x.2) : GOf w (l ++ [x]) (rs ++ [(x.1, .slice B x.2.length b)]) := by
  refine ⟨by simp [h.1], fun i y hy => ?_⟩
  by_cases hi : i < l.length
  · rw [List.getElem?_append_left hi] at hy
    obtain ⟨B', b', e, s⟩ := h.2 i y hy
    exact ⟨B', b', by rw [List.getElem?_append_left (by rw [h.1]; exact hi)]; exact e, s⟩
  · have e1 : i = l.length := by
      have := (List.getElem?_eq_some_iff.1 hy).1
      simp at this
      omega
    subst e1
    rw [List.getElem?_append_right (by omega), Nat.sub_self] at hy
    simp at hy
    subst hy
    exact ⟨B, b, by rw [← h.1]; simp, hb⟩
theorem GOf.fst {w : World} {l : List RowD} {rs : List GRow} (h : GOf w l rs) : rs.map Prod.fst = l.map Prod.fst := by
  apply List.ext_getElem?
  intro i
  rw [List.getElem?_map, List.getElem?_map]
  by_cases hi : i < l.length
  · obtain ⟨B, b, e, _⟩ := h.2 i l[i] (List.getElem?_eq_getElem hi)
    rw [e, List.getElem?_eq_getElem hi]
    rfl
  · have e1 : l[i]? = none := List.getElem?_eq_none (by omega)
    have e2 : rs[i]? = none := List.getElem?_eq_none (by rw [h.1]; omega)
    rw [e1, e2]; rfl
theorem find_pair {w : World} (k : List UInt8) : ∀ (l : List RowD) (rs : List GRow), GOf w l rs → k ∈ l.map Prod.fst → ∃ B b, lookG rs k = .slice B (valOf l k).length b ∧ Bs w B b (valOf l k)
  | [], rs, h, hk => by simp at hk
  | x :: t, rs, h, hk => by
    obtain ⟨B, b, e, s⟩ := h.2 0 x (by simp)
    match rs, h, e with
    | r :: rt, h, e =>
      simp at e
      subst e
      have ht : GOf w t rt := ⟨by have := h.1; simpa using this, fun i y hy => by simpa using h.2 (i + 1) y (by simpa using hy)⟩
      by_cases hx : x.1 = k
      · refine ⟨B, b, ?_, ?_⟩
        · simp [lookG, valOf, hx]
        · simpa [valOf, hx] using s
      · have hk2 : k ∈ t.map Prod.fst := by
          rw [List.map_cons, List.mem_cons] at hk
          exact hk.resolve_left (fun e => hx e.symm)
        obtain ⟨B', b', e', s'⟩ := find_pair k t rt ht hk2
        have hb : (x.1 == k) = false := by simpa using hx
        refine ⟨B', b', ?_, ?_⟩
        · unfold lookG valOf at e' ⊢
          rw [List.find?_cons, List.find?_cons, hb]
          exact e'
        · unfold valOf at s' ⊢
          rw [List.find?_cons, hb]
          exact s'
/-- []byte(s) -/
theorem bytes_of (w : World) (k : List UInt8) (hk : k.length ≤ 140737488355328) : ∃ cap w1, (convert 9 33 (.string ⟨k.toArray⟩)).run Tryz.prog w = .ok (.slice (some ⟨w.heap.size, 0, none⟩) k.length cap) w1
    ∧ Bs w1 (some ⟨w.heap.size, 0, none⟩) cap k ∧ Below w.heap.size w w1 := by
  have hrun := run_bytes_of_string (P := Tryz.prog) w 9 33 5 ⟨k.toArray⟩ u_str u_slice8 u_u8
  have hge := grownCap_ge w (ByteArray.size ⟨k.toArray⟩) 0 5
  have hsz : ByteArray.size ⟨k.toArray⟩ = k.length := by simp [ByteArray.size]
  generalize grownCap w (ByteArray.size ⟨k.toArray⟩) 0 5 = cap at *
  have hb : (w.drew.alloc (.cells (bytesRow ⟨k.toArray⟩ cap) 5 ((bytesRow ⟨k.toArray⟩ cap).size, (bytesRow ⟨k.toArray⟩ cap).size + 1))).heap[w.heap.size]? = some (.cells (bytesRow ⟨k.toArray⟩ cap) 5 ((bytesRow ⟨k.toArray⟩ cap).size, (bytesRow ⟨k.toArray⟩ cap).size + 1)) := by
    show (w.heap.push _)[w.heap.size]? = _
    simp
  have hB : Below w.heap.size w (w.drew.alloc (.cells (bytesRow ⟨k.toArray⟩ cap) 5 ((bytesRow ⟨k.toArray⟩ cap).size, (bytesRow ⟨k.toArray⟩ cap).size + 1))) := below_alloc (below_drewN (Below.refl _ _) 1) _
  rw [hsz] at hrun hge
  refine ⟨cap, _, hrun, ⟨hge, hk, fun i hi => ⟨_, rfl, blk_lt hb, ?_⟩⟩, hB⟩
  rw [addr_add_plain]
  refine (blk_cell hb i).trans ?_
  unfold bytesRow
  rw [Array.getElem?_append_left (by simpa using hi)]
  simp [hi]
end Go.Proofs.YtafdhccdjbfepaaGreat.Lst
/- find; sets as elements of lists. -/
namespace Go.Proofs.YtafdhccdjbfepaaGreat.Lst
open Go.RowKit Go.Proofs.YtafdhccdjbfepaaGreat.K Go.Proofs.YtafdhccdjbfepaaGreat.Help Go.Proofs.YtafdhccdjbfepaaGreat.Pfx Go.Proofs.YtafdhccdjbfepaaGreat.Peer
set_option linter.unusedVariables false

def hasK (l : List RowD) (k : List UInt8) : Bool := l.any (fun r => r.1 == k)
def RetF (w : World) (l : List RowD) (k : List UInt8) (e : Ending) (w' : World) : Prop := ∃ B b, e = .returned (.tuple #[.slice B (valOf l k).length b, .bool (hasK l k)]) ∧ Bs w' B b (valOf l k) ∧ Below w.heap.size w w'
theorem find_hit {l : List RowD} {k : List UInt8} {i : Nat} (hi : i < l.length) (h0 : ∀ j, j < i → (l.getD j zR).1 ≠ k) (h1 : (l.getD i zR).1 = k) : hasK l k = true ∧ valOf l k = (l.getD i zR).2 := by
  induction l generalizing i with
  | nil => simp at hi
  | cons r t ih =>
    match i with
    | 0 =>
      simp at h1 ⊢
      exact ⟨by simp [hasK, h1], by simp [valOf, h1]⟩
    | i + 1 =>
      have hr : (r.1 == k) = false := by simpa using h0 0 (by omega)
      have h2 := ih (i := i) (by simpa using hi) (fun j hj => by have := h0 (j + 1) (by omega); simpa using this) (by simpa using h1)
      refine ⟨by unfold hasK at h2 ⊢; rw [List.any_cons, h2.1]; simp, ?_⟩
      unfold valOf at h2 ⊢
      rw [List.find?_cons, hr]
      simpa using h2.2
theorem find_miss {l : List RowD} {k : List UInt8} (h0 : ∀ j, j < l.length → (l.getD j zR).1 ≠ k) : hasK l k = false ∧ valOf l k = [] := by
  induction l with
  | nil => exact ⟨rfl, rfl⟩
  | cons r t ih =>
    have hr : (r.1 == k) = false := by simpa using h0 0 (by simp)
    have h2 := ih (fun j hj => by have := h0 (j + 1) (by simpa using hj); simpa using this)
    refine ⟨by unfold hasK at h2 ⊢; rw [List.any_cons, h2.1, hr]; rfl, ?_⟩
    unfold valOf at h2 ⊢
    rw [List.find?_cons, hr]
    exact h2.2
set_option maxRecDepth 100000 in
set_option maxHeartbeats 1000000 in
theorem find_any (A : Option Addr) (c : Nat) (l : List RowD) (K : Option Addr) (kc : Nat) (k : List UInt8) (w : World) (hl : Lst RowE w (fun _ => False) A c l) (hk : Bs w K kc k) :
    Calls Tryz.prog 76 #[.slice A l.length c, .slice K k.length kc] w (RetF w l k) := by
  have HL := Lib.hid hl
  have HK := Lib.hid hk
  have h1 := hl.le
  have h2 := hl.max
  clear hl hk
  unfold RetF
  generalize hm : l.length = n at *
  have HN := Lib.hid hm
  clear hm
  go_enter Tryz.func76, Tryz.ntmps76
  go_wp2_with fail
  go_loopg [6] n (fun gk i wr => ∃ j : Nat, j ≤ n ∧ gk = n - j ∧ i = .int .i64 (j : Int) ∧ Hid (∀ i, i < j → (l.getD i zR).1 ≠ k) ∧ Below w.heap.size w wr)
  case atStart => exact ⟨0, by omega, rfl, rfl, fun i h => by omega, Below.refl _ _⟩
  case round =>
    obtain ⟨j, hj, rfl, rfl, HM, hb⟩ := hrel
    have HW := Lib.hid hb
    clear hb
    by_cases hlt : j < n
    · have i1 : (j : Int) < (n : Int) := by omega
      have i0 : (0 : Int) ≤ (j : Int) := by omega
      obtain ⟨bk, off, A1, a1, B1, b1, rfl, hbk, c0, c1, s1, s2⟩ := HL.out.row j _ (getD_get zR (by rw [HN.out]; exact hlt))
      have HIT := Lib.hid (fun h1 => find_hit (l := l) (k := k) (i := j) (by rw [HN.out]; exact hlt) HM.out h1)
      obtain ⟨⟨xk, xv⟩, hx⟩ : ∃ y, l.getD j zR = y := ⟨_, rfl⟩
      have HX := Lib.hid hx
      rw [hx] at c0 c1 s1 s2 HIT
      dsimp only at c0 c1 s1 s2 HIT
      have y0 : wr.cell? ⟨bk, off + j * 2, none⟩ = some (.slice A1 xk.length a1) := (HW.out.cell (p := ⟨bk, _, none⟩) hbk).trans c0
      have C1 := Lib.hid c1
      have HBK := Lib.hid hbk
      have S2 := Lib.hid s2.1
      have P := Lib.hid (sameBytes A1 K a1 kc xk k wr (s1.1.below HW.out) (HK.out.below HW.out))
      clear c0 c1 s1 s2 hx hbk
      by_cases he : xk = k
      · have P2 := P.out
        rw [show decide (xk = k) = true from decide_eq_true he] at P2
        have PP := Lib.hid P2
        obtain ⟨g1, g2⟩ := HIT.out he
        have G1 := Lib.hid g1
        have G2 := Lib.hid g2
        clear P P2 g1 g2 he
        go_wp2_with fail
        refine PP.out.mono ?_
        rintro e w2 ⟨q, rfl, rfl⟩
        have W2 := Lib.hid (below_drewN HW.out q)
        generalize wr.drewN q = w2 at *
        have y1 : w2.cell? ⟨bk, off + j * 2 + 1, none⟩ = some (.slice B1 xv.length b1) := (W2.out.cell (p := ⟨bk, _, none⟩) HBK.out).trans C1.out
        go_wp2_with fail
        exact bodyPost_ret (v := .tuple #[.slice B1 xv.length b1, .bool true]) (by simp [results, Tryz.results76, go_sem]) rfl ⟨B1, b1, by rw [G1.out, G2.out], by rw [G2.out]; exact S2.out.below W2.out, W2.out⟩
      · have P2 := P.out
        rw [show decide (xk = k) = false from decide_eq_false he] at P2
        have PP := Lib.hid P2
        have HE := Lib.hid he
        clear P P2 he
        go_wp2_with fail
        refine PP.out.mono ?_
        rintro e w2 ⟨q, rfl, rfl⟩
        have W2 := Lib.hid (below_drewN HW.out q)
        generalize wr.drewN q = w2 at *
        go_wp2_with fail
        go_roundg (n - (j + 1))
        case measure => omega
        case rel => exact ⟨j + 1, by omega, rfl, by go_num, fun i hi => by
          rcases Nat.lt_or_ge i j with h | h
          · exact HM.out i h
          · have : i = j := by omega
            subst this
            rw [HX.out]; exact HE.out, W2.out⟩
    · obtain rfl : j = n := by omega
      have i1 : ¬ (j : Int) < (j : Int) := by omega
      obtain ⟨g1, g2⟩ := find_miss (l := l) (k := k) (fun i hi => HM.out i (by rw [HN.out] at hi; exact hi))
      have G1 := Lib.hid g1
      have G2 := Lib.hid g2
      clear g1 g2
      go_wp2_with fail
      exact bodyPost_ret (v := .tuple #[.slice none 0 0, .bool false]) (by simp [results, Tryz.results76, go_sem]) rfl ⟨none, 0, by rw [G1.out, G2.out]; rfl, by rw [G2.out]; exact Bs.nil _ _ _, HW.out⟩
abbrev SetD := List UInt8 × List UInt8 × Bool
def SetR (w : World) (N : Nat → Prop) (raw : List Value) (x : SetD) : Prop := ∃ A a B b, raw = [.slice A x.1.length a, .slice B x.2.1.length b, .bool x.2.2] ∧ BsN w N A a x.1 ∧ BsN w N B b x.2.1
def SetE : Elem SetD where
  sz := 3
  R := SetR
  len := fun ⟨A, a, B, b, h, _⟩ => by rw [h]; rfl
  one := fun ⟨A, a, B, b, h, _⟩ u hu => by
    rw [h] at hu
    simp only [List.mem_cons, List.not_mem_nil, or_false] at hu
    rcases hu with rfl | rfl | rfl <;> rfl
  below := fun ⟨A, a, B, b, h, h1, h2⟩ hb => ⟨A, a, B, b, h, h1.below hb, h2.below hb⟩
  only := fun ⟨A, a, B, b, h, h1, h2⟩ k hT => ⟨A, a, B, b, h, h1.only k hT, h2.only k hT⟩
  reno := fun ⟨A, a, B, b, h, h1, h2⟩ hN => ⟨A, a, B, b, h, h1.reno hN, h2.reno hN⟩
theorem info_set : (Tryz.prog.info? 123).map (fun i => (i.zero, i.size, i.bytes)) = some (some (.agg #[.slice none 0 0, .slice none 0 0, .bool false]), 3, 56) := by kernel_rfl
end Go.Proofs.YtafdhccdjbfepaaGreat.Lst
/- The walk of the document's laySet. -/
namespace Go.Proofs.YtafdhccdjbfepaaGreat.Lst
open Go.RowKit Go.Proofs.YtafdhccdjbfepaaGreat.K Go.Proofs.YtafdhccdjbfepaaGreat.Help Go.Proofs.YtafdhccdjbfepaaGreat.Pfx Go.Proofs.YtafdhccdjbfepaaGreat.Peer
set_option linter.unusedVariables false

theorem set_key {w : World} {N : Nat → Prop} {A : Option Addr} {n a : Nat} {rest : List Value} {d : SetD} (h : SetE.R w N (Value.slice A n a :: rest) d) : Bs w A a d.1 := by
  obtain ⟨A', a', B', b', e, h1, h2⟩ := h
  injection e with e1 e2
  injection e1 with e3 e4 e5
  subst e3 e5
  exact h1.1
def ltS (a b : SetD) : Bool := lessB a.1 b.1
def zeroSet : SetD := ([], [], false)
set_option maxRecDepth 100000 in
set_option maxHeartbeats 4000000 in
theorem laySet_any (A : Option Addr) (c : Nat) (l : List SetD) (A0 : Option Addr) (a0 : Nat) (B0 : Option Addr) (b0 : Nat) (p : SetD) (w : World) (hl : Lst SetE w (fun _ => False) A c l) (hr : SetE.R w (fun _ => False) ([Value.slice A0 p.1.length a0, .slice B0 p.2.1.length b0, .bool p.2.2]) p) (hn : l.length ≤ 1000) :
    Calls Tryz.prog 77 #[.slice A l.length c, .agg ([Value.slice A0 p.1.length a0, .slice B0 p.2.1.length b0, .bool p.2.2]).toArray] w (RetL SetE w (layG ltS l p)) := by
  have HL := Lib.hid hl
  have h1 := hl.le
  have h2 := hl.max
  have HP := Lib.hid hr
  clear hl hr
  generalize hm : l.length = n at *
  have HN := Lib.hid hm
  clear hm
  generalize hg : layG ltS l p = res
  have HG := Lib.hid hg
  clear hg
  obtain ⟨pk, pv, pg⟩ := p
  dsimp only at HP ⊢
  have HB0 := Lib.hid (blk_new w (.cells #[.slice A0 pk.length a0, .slice B0 pv.length b0, .bool pg] 123))
  go_enter Tryz.func77, Tryz.ntmps77
  go_wp2_with fail
  go_loopg [7, 5, 6] n (fun gk i s5 s6 wr => ∃ (k : Nat) (M : List SetD) (b : Bool), k ≤ n ∧ gk = n - k ∧ i = .int .i64 (k : Int) ∧ s6 = .bool b ∧ Hid ((l.take k).foldl (layF ltS (pk, pv, pg)) ([], false) = (M, b)) ∧ OwnL SetE 123 wr (fun _ => False) (w.heap.size + 1) s5 M ∧ wr.heap[w.heap.size]? = some (.cells #[.slice A0 pk.length a0, .slice B0 pv.length b0, .bool pg] 123 (0, 0)) ∧ Below w.heap.size w wr)
  case atStart => exact ⟨0, [], false, by omega, rfl, rfl, rfl, rfl, OwnL.nil _ _ _ _ _, HB0.out, (Below.refl _ _).alloc (Nat.le_refl _) _⟩
  case round =>
    obtain ⟨k, M, b, hk, rfl, rfl, rfl, HM, ho, hb, hbel⟩ := hrel
    obtain ⟨AM, cM, rfl⟩ := ho.slice
    have hlen := layF_len ltS (pk, pv, pg) (l.take k) ([], false)
    rw [HM.out] at hlen
    have hml : M.length ≤ 1002 := by have := hlen.1; simp only [List.length_nil, List.length_take] at this; omega
    clear hlen
    have HML := Lib.hid hml
    have p0 : wr.cell? ⟨w.heap.size, 0, none⟩ = some (.slice A0 pk.length a0) := (blk_cell hb 0).trans rfl
    have p1 : wr.cell? ⟨w.heap.size, 1, none⟩ = some (.slice B0 pv.length b0) := (blk_cell hb 1).trans rfl
    have p2 : wr.cell? ⟨w.heap.size, 2, none⟩ = some (.bool pg) := (blk_cell hb 2).trans rfl
    have HO := Lib.hid ho
    have HB := Lib.hid hb
    have HW := Lib.hid hbel
    have hsz : w.heap.size + 1 ≤ wr.heap.size := blk_lt hb
    have HSZ := Lib.hid hsz
    clear ho hb hbel hsz hml
    by_cases hlt : k < n
    · have i1 : (k : Int) < (n : Int) := by omega
      have i0 : (0 : Int) ≤ (k : Int) := by omega
      have HST := Lib.hid (lay_step ltS (pk, pv, pg) zeroSet l k (by rw [HN.out]; exact hlt))
      rw [HM.out] at HST
      obtain ⟨bk, off, raw, rfl, hbk, -, hc, hR⟩ := HL.out.at_ k _ (getD_get zeroSet (by rw [HN.out]; exact hlt))
      obtain ⟨⟨xk, xv, xg⟩, hx⟩ : ∃ y, l.getD k zeroSet = y := ⟨_, rfl⟩
      rw [hx] at hR HST
      have hR2 := hR
      obtain ⟨A1, a1, B1, b1, rfl, -, -⟩ := hR
      have hRX : SetE.R w (fun _ => False) ([Value.slice A1 xk.length a1, .slice B1 xv.length b1, .bool xg]) (xk, xv, xg) := hR2
      have HRX := Lib.hid hRX
      have x0 : wr.cell? ⟨bk, off + k * 3, none⟩ = some (.slice A1 xk.length a1) := (HW.out.cell (p := ⟨bk, _, none⟩) hbk).trans (hc 0 (by decide))
      have x1 : wr.cell? ⟨bk, off + k * 3 + 1, none⟩ = some (.slice B1 xv.length b1) := (HW.out.cell (p := ⟨bk, _, none⟩) hbk).trans (hc 1 (by decide))
      have x2 : wr.cell? ⟨bk, off + k * 3 + 2, none⟩ = some (.bool xg) := (HW.out.cell (p := ⟨bk, _, none⟩) hbk).trans (hc 2 (by decide))
      clear hc hR2 hx hRX
      have VL := Lib.hid (fun n => less_any A0 A1 a0 a1 pk xk (wr.drewN n) (((set_key HP.out).below HW.out).drewN n) (((set_key HRX.out).below HW.out).drewN n))
      cases b
      · by_cases hlk : lessB pk xk = true
        · have hs := HST.out
          rw [layF_yes (by unfold ltS; exact hlk)] at hs
          rw [hlk] at VL
          have HS := Lib.hid hs
          clear hs hlk
          go_wp2_with fail
          go_quiet ((go_at_call 115; exact quiet_at0 (VL.out _)))
          obtain ⟨wq, hwq⟩ : ∃ W, W = wr.drewN nq := ⟨_, rfl⟩
          rw [← hwq]
          have HOq : Hid (OwnL SetE 123 wq (fun _ => False) (w.heap.size + 1) (.slice AM M.length cM) M) := by rw [hwq]; exact HO.out.drewN nq
          have HBq : Hid (wq.heap[w.heap.size]? = some (.cells #[.slice A0 pk.length a0, .slice B0 pv.length b0, .bool pg] 123 (0, 0))) := by rw [hwq]; exact HB.out
          have HWq : Hid (Below w.heap.size w wq) := by rw [hwq]; exact below_drewN HW.out nq
          have HSQ : Hid (w.heap.size + 1 ≤ wq.heap.size) := Lib.hid (blk_lt HBq.out)
          have p0q : wq.cell? ⟨w.heap.size, 0, none⟩ = some (.slice A0 pk.length a0) := (blk_cell HBq.out 0).trans rfl
          have p1q : wq.cell? ⟨w.heap.size, 1, none⟩ = some (.slice B0 pv.length b0) := (blk_cell HBq.out 1).trans rfl
          have p2q : wq.cell? ⟨w.heap.size, 2, none⟩ = some (.bool pg) := (blk_cell HBq.out 2).trans rfl
          have x0q : wq.cell? ⟨bk, off + k * 3, none⟩ = some (.slice A1 xk.length a1) := by rw [hwq]; exact x0
          have x1q : wq.cell? ⟨bk, off + k * 3 + 1, none⟩ = some (.slice B1 xv.length b1) := by rw [hwq]; exact x1
          have x2q : wq.cell? ⟨bk, off + k * 3 + 2, none⟩ = some (.bool xg) := by rw [hwq]; exact x2
          clear hwq
          have HWP := Lib.hid (below_alloc HWq.out (.cells #[.slice A0 pk.length a0, .slice B0 pv.length b0, .bool pg] 123))
          have HP1 := Lib.hid (blk_new wq (.cells #[.slice A0 pk.length a0, .slice B0 pv.length b0, .bool pg] 123))
          have HOP := Lib.hid (HOq.out.below (below_alloc (Below.refl _ _) (.cells #[.slice A0 pk.length a0, .slice B0 pv.length b0, .bool pg] 123)))
          have HBP := Lib.hid (blk_alloc HBq.out (.cells #[.slice A0 pk.length a0, .slice B0 pv.length b0, .bool pg] 123))
          have HPA := Lib.hid (old_el HP.out HWP.out HOP.out (Nat.le_succ _))
          go_wp2_with (first
          | (at_builtin; refine push (E := SetE) 123 64 _ 56 rfl (.tmp 26) (.tmp 28) rfl Tryz.underlying64 info_set rfl (by decide) (by decide) (by decide) (.slice AM M.length cM) M (pk, pv, pg) ([Value.slice A0 pk.length a0, .slice B0 pv.length b0, .bool pg]) wq.heap.size 1 rfl rfl HOP.out HP1.out HPA.out (by have := HSQ.out; simp; omega) (by have := HML.out; omega) ?_ (fun _ h => h.elim); intro A2 c2 w2 o2 k2 n2; have W2 := Lib.hid (below_only HWP.out k2 (fun i hi => by have := HOP.out.base_le hi; omega)); have B2 := Lib.hid (k2.blk HBP.out (fun h => by have := HOP.out.base_le h; omega)); have y0 : w2.cell? ⟨bk, off + k * 3, none⟩ = some (.slice A1 xk.length a1) := (W2.out.cell (p := ⟨bk, _, none⟩) hbk).trans ((HWq.out.cell (p := ⟨bk, _, none⟩) hbk).symm.trans x0q); have y1 : w2.cell? ⟨bk, off + k * 3 + 1, none⟩ = some (.slice B1 xv.length b1) := (W2.out.cell (p := ⟨bk, _, none⟩) hbk).trans ((HWq.out.cell (p := ⟨bk, _, none⟩) hbk).symm.trans x1q); have y2 : w2.cell? ⟨bk, off + k * 3 + 2, none⟩ = some (.bool xg) := (W2.out.cell (p := ⟨bk, _, none⟩) hbk).trans ((HWq.out.cell (p := ⟨bk, _, none⟩) hbk).symm.trans x2q); have S2 := Lib.hid (blk_lt B2.out); have W2A := Lib.hid (below_alloc W2.out (.cells #[.slice A1 xk.length a1, .slice B1 xv.length b1, .bool xg] 123)); have X2 := Lib.hid (blk_new w2 (.cells #[.slice A1 xk.length a1, .slice B1 xv.length b1, .bool xg] 123)); have O2A := Lib.hid (o2.below (below_alloc (Below.refl _ _) (.cells #[.slice A1 xk.length a1, .slice B1 xv.length b1, .bool xg] 123))); have B2A := Lib.hid (blk_alloc B2.out (.cells #[.slice A1 xk.length a1, .slice B1 xv.length b1, .bool xg] 123)); have R2A := Lib.hid (old_el HRX.out W2A.out O2A.out (Nat.le_succ _)); clear o2 k2 n2)
          | (at_builtin; refine push (E := SetE) 123 64 _ 56 rfl (.tmp 30) (.tmp 35) rfl Tryz.underlying64 info_set rfl (by decide) (by decide) (by decide) (.slice A2 (M.length + 1) c2) (M ++ [(pk, pv, pg)]) (xk, xv, xg) ([Value.slice A1 xk.length a1, .slice B1 xv.length b1, .bool xg]) w2.heap.size 1 rfl rfl O2A.out X2.out R2A.out (by have := S2.out; simp; omega) (by have := HML.out; simp; omega) ?_ (fun _ h => h.elim); intro A3 c3 w3 o3 k3 n3; have O3 := Lib.hid o3; have W3 := Lib.hid (below_only W2A.out k3 (fun i hi => by have := O2A.out.base_le hi; omega)); have B3 := Lib.hid (k3.blk B2A.out (fun h => by have := O2A.out.base_le h; omega)); clear o3 k3 n3))
          go_roundg (n - (k + 1))
          case measure => omega
          case rel => exact ⟨k + 1, M ++ [(pk, pv, pg), (xk, xv, xg)], true, by omega, rfl, by go_num, rfl, HS, by have h := O3.out; rw [List.append_assoc] at h; simpa using h, B3.out, W3.out⟩

        · have hl2 : lessB pk xk = false := by simpa using hlk
          have hs := HST.out
          rw [layF_no (.inr (by unfold ltS; exact hl2))] at hs
          rw [hl2] at VL
          have HS := Lib.hid hs
          clear hs hlk hl2
          go_wp2_with fail
          go_quiet ((go_at_call 115; exact quiet_at0 (VL.out _)))
          obtain ⟨wq, hwq⟩ : ∃ W, W = wr.drewN nq := ⟨_, rfl⟩
          rw [← hwq]
          have HOq : Hid (OwnL SetE 123 wq (fun _ => False) (w.heap.size + 1) (.slice AM M.length cM) M) := by rw [hwq]; exact HO.out.drewN nq
          have HBq : Hid (wq.heap[w.heap.size]? = some (.cells #[.slice A0 pk.length a0, .slice B0 pv.length b0, .bool pg] 123 (0, 0))) := by rw [hwq]; exact HB.out
          have HWq : Hid (Below w.heap.size w wq) := by rw [hwq]; exact below_drewN HW.out nq
          have HSQ : Hid (w.heap.size + 1 ≤ wq.heap.size) := Lib.hid (blk_lt HBq.out)
          have p0q : wq.cell? ⟨w.heap.size, 0, none⟩ = some (.slice A0 pk.length a0) := (blk_cell HBq.out 0).trans rfl
          have p1q : wq.cell? ⟨w.heap.size, 1, none⟩ = some (.slice B0 pv.length b0) := (blk_cell HBq.out 1).trans rfl
          have p2q : wq.cell? ⟨w.heap.size, 2, none⟩ = some (.bool pg) := (blk_cell HBq.out 2).trans rfl
          have x0q : wq.cell? ⟨bk, off + k * 3, none⟩ = some (.slice A1 xk.length a1) := by rw [hwq]; exact x0
          have x1q : wq.cell? ⟨bk, off + k * 3 + 1, none⟩ = some (.slice B1 xv.length b1) := by rw [hwq]; exact x1
          have x2q : wq.cell? ⟨bk, off + k * 3 + 2, none⟩ = some (.bool xg) := by rw [hwq]; exact x2
          clear hwq
          have HWA := Lib.hid (below_alloc HWq.out (.cells #[.slice A1 xk.length a1, .slice B1 xv.length b1, .bool xg] 123))
          have HX1 := Lib.hid (blk_new wq (.cells #[.slice A1 xk.length a1, .slice B1 xv.length b1, .bool xg] 123))
          have HOA := Lib.hid (HOq.out.below (below_alloc (Below.refl _ _) (.cells #[.slice A1 xk.length a1, .slice B1 xv.length b1, .bool xg] 123)))
          have HBA := Lib.hid (blk_alloc HBq.out (.cells #[.slice A1 xk.length a1, .slice B1 xv.length b1, .bool xg] 123))
          have HXA := Lib.hid (old_el HRX.out HWA.out HOA.out (Nat.le_succ _))
          go_wp2_with (at_builtin; refine push (E := SetE) 123 64 _ 56 rfl (.tmp 30) (.tmp 35) rfl Tryz.underlying64 info_set rfl (by decide) (by decide) (by decide) (.slice AM M.length cM) M (xk, xv, xg) ([Value.slice A1 xk.length a1, .slice B1 xv.length b1, .bool xg]) wq.heap.size 1 rfl rfl (HOA.out) HX1.out HXA.out (by have := HSQ.out; simp; omega) (by have := HML.out; omega) ?_ (fun _ h => h.elim); intro A3 c3 w3 o3 k3 n3; have O3 := Lib.hid o3; have W3 := Lib.hid (below_only HWA.out k3 (fun i hi => by have := (HOA.out).base_le hi; omega)); have B3 := Lib.hid (k3.blk HBA.out (fun h => by have := (HOA.out).base_le h; omega)); clear o3 k3 n3)
          go_roundg (n - (k + 1))
          case measure => omega
          case rel => exact ⟨k + 1, M ++ [(xk, xv, xg)], false, by omega, rfl, by go_num, rfl, HS, O3.out, B3.out, W3.out⟩

      · have hs := HST.out
        rw [layF_no (.inl rfl)] at hs
        have HS := Lib.hid hs
        clear hs
        go_wp2_with fail
        go_quiet (fail)
        obtain ⟨wq, hwq⟩ : ∃ W, W = wr.drewN nq := ⟨_, rfl⟩
        rw [← hwq]
        have HOq : Hid (OwnL SetE 123 wq (fun _ => False) (w.heap.size + 1) (.slice AM M.length cM) M) := by rw [hwq]; exact HO.out.drewN nq
        have HBq : Hid (wq.heap[w.heap.size]? = some (.cells #[.slice A0 pk.length a0, .slice B0 pv.length b0, .bool pg] 123 (0, 0))) := by rw [hwq]; exact HB.out
        have HWq : Hid (Below w.heap.size w wq) := by rw [hwq]; exact below_drewN HW.out nq
        have HSQ : Hid (w.heap.size + 1 ≤ wq.heap.size) := Lib.hid (blk_lt HBq.out)
        have p0q : wq.cell? ⟨w.heap.size, 0, none⟩ = some (.slice A0 pk.length a0) := (blk_cell HBq.out 0).trans rfl
        have p1q : wq.cell? ⟨w.heap.size, 1, none⟩ = some (.slice B0 pv.length b0) := (blk_cell HBq.out 1).trans rfl
        have p2q : wq.cell? ⟨w.heap.size, 2, none⟩ = some (.bool pg) := (blk_cell HBq.out 2).trans rfl
        have x0q : wq.cell? ⟨bk, off + k * 3, none⟩ = some (.slice A1 xk.length a1) := by rw [hwq]; exact x0
        have x1q : wq.cell? ⟨bk, off + k * 3 + 1, none⟩ = some (.slice B1 xv.length b1) := by rw [hwq]; exact x1
        have x2q : wq.cell? ⟨bk, off + k * 3 + 2, none⟩ = some (.bool xg) := by rw [hwq]; exact x2
        clear hwq
        have HWA := Lib.hid (below_alloc HWq.out (.cells #[.slice A1 xk.length a1, .slice B1 xv.length b1, .bool xg] 123))
        have HX1 := Lib.hid (blk_new wq (.cells #[.slice A1 xk.length a1, .slice B1 xv.length b1, .bool xg] 123))
        have HOA := Lib.hid (HOq.out.below (below_alloc (Below.refl _ _) (.cells #[.slice A1 xk.length a1, .slice B1 xv.length b1, .bool xg] 123)))
        have HBA := Lib.hid (blk_alloc HBq.out (.cells #[.slice A1 xk.length a1, .slice B1 xv.length b1, .bool xg] 123))
        have HXA := Lib.hid (old_el HRX.out HWA.out HOA.out (Nat.le_succ _))
        go_wp2_with (at_builtin; refine push (E := SetE) 123 64 _ 56 rfl (.tmp 30) (.tmp 35) rfl Tryz.underlying64 info_set rfl (by decide) (by decide) (by decide) (.slice AM M.length cM) M (xk, xv, xg) ([Value.slice A1 xk.length a1, .slice B1 xv.length b1, .bool xg]) wq.heap.size 1 rfl rfl (HOA.out) HX1.out HXA.out (by have := HSQ.out; simp; omega) (by have := HML.out; omega) ?_ (fun _ h => h.elim); intro A3 c3 w3 o3 k3 n3; have O3 := Lib.hid o3; have W3 := Lib.hid (below_only HWA.out k3 (fun i hi => by have := (HOA.out).base_le hi; omega)); have B3 := Lib.hid (k3.blk HBA.out (fun h => by have := (HOA.out).base_le h; omega)); clear o3 k3 n3)
        go_roundg (n - (k + 1))
        case measure => omega
        case rel => exact ⟨k + 1, M ++ [(xk, xv, xg)], true, by omega, rfl, by go_num, rfl, HS, O3.out, B3.out, W3.out⟩


    · obtain rfl : k = n := by omega
      have i1 : ¬ (k : Int) < (k : Int) := by omega
      have htk : l.take k = l := List.take_of_length_le (by rw [HN.out]; omega)
      have HM2 := HM.out
      rw [htk] at HM2
      cases b
      · have HRS : Hid (res = M ++ [(pk, pv, pg)]) := by rw [Hid, ← HG.out]; unfold layG; rw [HM2]; rfl
        have HWA := Lib.hid (below_alloc HW.out (.cells #[.slice A0 pk.length a0, .slice B0 pv.length b0, .bool pg] 123))
        have HX1 := Lib.hid (blk_new wr (.cells #[.slice A0 pk.length a0, .slice B0 pv.length b0, .bool pg] 123))
        have HOA := Lib.hid (HO.out.below (below_alloc (Below.refl _ _) (.cells #[.slice A0 pk.length a0, .slice B0 pv.length b0, .bool pg] 123)))
        have HPA := Lib.hid (old_el HP.out HWA.out HOA.out (Nat.le_succ _))
        clear htk HM2
        go_wp2_with (at_builtin; refine push (E := SetE) 123 64 _ 56 rfl (.tmp 39) (.tmp 41) rfl Tryz.underlying64 info_set rfl (by decide) (by decide) (by decide) (.slice AM M.length cM) M (pk, pv, pg) ([Value.slice A0 pk.length a0, .slice B0 pv.length b0, .bool pg]) wr.heap.size 1 rfl rfl HOA.out HX1.out HPA.out (by have := HSZ.out; simp; omega) (by have := HML.out; omega) ?_ (fun _ h => h.elim); intro A3 c3 w3 o3 k3 n3; have O3 := Lib.hid o3; have W3 := Lib.hid (below_only HWA.out k3 (fun i hi => by have := HOA.out.base_le hi; omega)); clear o3 k3 n3)
        go_ret
        have hO := O3.out
        rw [← HRS.out] at hO
        obtain ⟨A4, c4, e, h4⟩ := hO.lst (N := fun _ => False) (fun _ _ h => h)
        refine ⟨A4, c4, ?_, h4, W3.out⟩
        show Ending.returned (Value.slice A3 (M.length + 1) c3) = _
        rw [← e]
      · have HRS : Hid (res = M) := by rw [Hid, ← HG.out]; unfold layG; rw [HM2]; rfl
        clear htk HM2
        go_wp2_with fail
        go_ret
        obtain ⟨A4, c4, e, h4⟩ := HO.out.lst (N := fun _ => False) (fun _ _ h => h)
        rw [HRS.out]
        refine ⟨A4, c4, ?_, h4, HW.out⟩
        show Ending.returned (Value.slice AM M.length cM) = _
        rw [e]

end Go.Proofs.YtafdhccdjbfepaaGreat.Lst
/- The walk of the document's rowsOf. -/
namespace Go.Proofs.YtafdhccdjbfepaaGreat.Lst
open Go.RowKit Go.Proofs.YtafdhccdjbfepaaGreat.K Go.Proofs.YtafdhccdjbfepaaGreat.Help Go.Proofs.YtafdhccdjbfepaaGreat.Pfx Go.Proofs.YtafdhccdjbfepaaGreat.Peer
set_option linter.unusedVariables false

noncomputable def rowP (p : PeerD) : RowD := ((putPeer p).1, (putPeer p).2.1)
noncomputable def okP (p : PeerD) : Bool := (putPeer p).2.2 == 0
def rowL (d : LaneD) : RowD := ((putLane d).1, (putLane d).2.1)
def okL (d : LaneD) : Bool := (putLane d).2.2 == 0
noncomputable def rowsPL (ps : List PeerD) (ls : List LaneD) : List RowD := ps.map rowP ++ ls.map rowL
noncomputable def goodPL (ps : List PeerD) (ls : List LaneD) : Bool := ps.all okP && ls.all okL
def RetR (w : World) (l : List RowD) (b : Bool) (e : Ending) (w' : World) : Prop := ∃ A c, e = .returned (.tuple #[.slice A l.length c, .bool b]) ∧ Lst RowE w' (fun _ => False) A c l ∧ Below w.heap.size w w'
theorem take_map {α β : Type} (f : α → β) (z : α) (l : List α) (k : Nat) (hk : k < l.length) : (l.take (k + 1)).map f = (l.take k).map f ++ [f (l.getD k z)] := by
  have e : l.getD k z = l[k] := by simp [hk]
  rw [List.take_succ_eq_append_getElem hk, List.map_append, e]; rfl
theorem take_all {α : Type} (f : α → Bool) (z : α) (l : List α) (k : Nat) (hk : k < l.length) : (l.take (k + 1)).all f = ((l.take k).all f && f (l.getD k z)) := by
  have e : l.getD k z = l[k] := by simp [hk]
  rw [List.take_succ_eq_append_getElem hk, List.all_append, e, List.all_cons, List.all_nil, Bool.and_true]
theorem blk_two (w : World) (q1 q2 : Obj) : ((w.alloc q1).alloc q2).heap[w.heap.size + 1]? = some q2 := by
  have := blk_new (w.alloc q1) q2
  simpa using this
theorem fresh_row {W W2 : World} {A B : Option Addr} {a b : Nat} {k v : List UInt8} {N : Nat → Prop} (h1 : Bs W2 A a k) (h2 : Bs W2 B b v) (n1 : Nw W A) (n2 : Nw W B) (hv : ∀ i, N i → i < W.heap.size) :
    RowE.R W2 N [Value.slice A k.length a, .slice B v.length b] (k, v) := ⟨A, a, B, b, rfl, Bs.fresh h1 n1 hv, Bs.fresh h2 n2 hv⟩
set_option maxRecDepth 100000 in
set_option maxHeartbeats 4000000 in
theorem rowsOf_any (A B : Option Addr) (a b : Nat) (ps : List PeerD) (ls : List LaneD) (w : World) (hp : Lst PeerE w (fun _ => False) A a ps) (hq : Lst LaneE w (fun _ => False) B b ls) (hn : ps.length ≤ 1000) (hm : ls.length ≤ 1000) :
    Calls Tryz.prog 75 #[.slice A ps.length a, .slice B ls.length b] w (RetR w (rowsPL ps ls) (goodPL ps ls && !twiceB (rowsPL ps ls))) := by
  have HP := Lib.hid hp
  have HQ := Lib.hid hq
  have h1 := hp.le
  have h2 := hp.max
  have h3 := hq.le
  have h4 := hq.max
  clear hp hq
  generalize hr : (goodPL ps ls && !twiceB (rowsPL ps ls)) = res
  have HR := Lib.hid hr
  generalize hrr : rowsPL ps ls = rws at *
  have HRR := Lib.hid hrr
  clear hr hrr
  unfold goodPL at HR
  generalize hnn : ps.length = n at *
  have HN := Lib.hid hnn
  generalize hmm : ls.length = m at *
  have HM := Lib.hid hmm
  clear hnn hmm
  go_enter Tryz.func75, Tryz.ntmps75
  go_wp2_with fail
  go_loopg [8, 6, 7] n (fun gk i s6 s7 wr => ∃ (k : Nat) (g : Bool), k ≤ n ∧ gk = n - k ∧ i = .int .i64 (k : Int) ∧ s7 = .bool g ∧ Hid ((ps.take k).all okP = g) ∧ OwnL RowE 47 wr (fun _ => False) w.heap.size s6 ((ps.take k).map rowP) ∧ Below w.heap.size w wr)
  case atStart => exact ⟨0, true, by omega, rfl, rfl, rfl, rfl, OwnL.nil _ _ _ _ _, Below.refl _ _⟩
  case round =>
    obtain ⟨k, g, hk, rfl, rfl, rfl, HG, ho, hb⟩ := hrel
    have hlk : ((ps.take k).map rowP).length = k := by rw [List.length_map, List.length_take, HN.out]; omega
    obtain ⟨AM, cM, rfl⟩ := ho.slice
    have HO := Lib.hid ho
    have HW := Lib.hid hb
    clear ho hb
    by_cases hlt : k < n
    · have i1 : (k : Int) < (n : Int) := by omega
      have i0 : (0 : Int) ≤ (k : Int) := by omega
      have HT := Lib.hid (take_map rowP zeroPeer ps k (by rw [HN.out]; exact hlt))
      have HTA := Lib.hid (take_all okP zeroPeer ps k (by rw [HN.out]; exact hlt))
      rw [HG.out] at HTA
      obtain ⟨bk, off, A1, a1, B1, b1, rfl, hbk, c0, c1, c2, s1, s2⟩ := HP.out.peer k _ (getD_get zeroPeer (by rw [HN.out]; exact hlt))
      obtain ⟨x, hx⟩ : ∃ y, ps.getD k zeroPeer = y := ⟨_, rfl⟩
      rw [hx] at c0 c1 c2 s1 s2 HT HTA
      rw [show rowP x = ((putPeer x).1, (putPeer x).2.1) from rfl] at HT
      rw [show okP x = ((putPeer x).2.2 == 0) from rfl] at HTA
      have y0 : wr.cell? ⟨bk, off + k * 3, none⟩ = some (.int .i64 x.link) := (HW.out.cell (p := ⟨bk, _, none⟩) hbk).trans c0
      have y1 : wr.cell? ⟨bk, off + k * 3 + 1, none⟩ = some (.slice A1 x.key.length a1) := (HW.out.cell (p := ⟨bk, _, none⟩) hbk).trans c1
      have y2 : wr.cell? ⟨bk, off + k * 3 + 2, none⟩ = some (.slice B1 x.ps.length b1) := (HW.out.cell (p := ⟨bk, _, none⟩) hbk).trans c2
      have P := Lib.hid (refPutPeer_any A1 B1 a1 b1 x wr (s1.1.below HW.out) (s2.1.below HW.out))
      unfold peerV at P
      generalize hpp : putPeer x = pp at HT HTA P
      obtain ⟨pk, pv, pc⟩ := pp
      dsimp only at HT HTA P
      have HLK := Lib.hid hlk
      clear c0 c1 c2 s1 s2 hx hpp
      rw [hlk] at HO ⊢
      clear hlk
      go_wp2_with fail
      refine P.out.mono ?_
      rintro e w2 ⟨v1, v2, rfl, o1, o2, hb2⟩
      obtain ⟨A2, a2, rfl, t1⟩ := o1.bs
      obtain ⟨A3, a3, rfl, t2⟩ := o2.bs
      have n1 := Own.nw (w := wr) o1 (Nat.le_refl _)
      have n2 := Own.nw (w := wr) o2 (Nat.le_refl _)
      have hq1 := below_alloc hb2 (.cells #[.slice A2 pk.length a2, .slice A3 pv.length a3] 47)
      have hq2 := below_alloc hq1 (.cells #[.slice A2 pk.length a2, .slice A3 pv.length a3] 47)
      have hq0 := below_alloc (below_alloc (Below.refl w2.heap.size w2) (.cells #[.slice A2 pk.length a2, .slice A3 pv.length a3] 47)) (.cells #[.slice A2 pk.length a2, .slice A3 pv.length a3] 47)
      have p0 := (blk_cell (blk_new w2 (.cells #[.slice A2 pk.length a2, .slice A3 pv.length a3] 47)) 0).trans (b := some (Value.slice A2 pk.length a2)) rfl
      have p1 := (blk_cell (blk_new w2 (.cells #[.slice A2 pk.length a2, .slice A3 pv.length a3] 47)) 1).trans (b := some (Value.slice A3 pv.length a3)) rfl
      have HWA := Lib.hid (below_step HW.out hq2)
      have HX1 := Lib.hid (blk_two w2 (.cells #[.slice A2 pk.length a2, .slice A3 pv.length a3] 47) (.cells #[.slice A2 pk.length a2, .slice A3 pv.length a3] 47))
      have HOA := Lib.hid (HO.out.below hq2)
      have HXA := Lib.hid (fresh_row (W := wr) (k := pk) (v := pv) (N := fun i => (fun _ => False) i ∨ (Value.slice AM k cM).ownBlock = some i) (t1.below hq0) (t2.below hq0) n1 n2 (fun i hi => hi.elim False.elim (fun h => HO.out.lt h)))
      clear o1 o2 t1 t2 hb2 hq1 hq2 hq0 n1 n2
      cases g
      · go_wp2_with (at_builtin; refine push (E := RowE) 47 26 _ 48 rfl (.tmp 33) (.tmp 35) rfl Tryz.underlying26 info_row rfl (by decide) (by decide) (by decide) (.slice AM k cM) ((ps.take k).map rowP) (pk, pv) [Value.slice A2 pk.length a2, .slice A3 pv.length a3] (w2.heap.size + 1) 1 rfl rfl HOA.out HX1.out HXA.out HWA.out.size (by rw [HLK.out]; omega) ?_ (fun _ h => h.elim); intro A4 c4 w4 o4 k4 n4; rw [HLK.out] at o4 ⊢; rw [← HT.out] at o4; have O4 := Lib.hid o4; have W4 := Lib.hid (below_only HWA.out k4 (fun i hi => HOA.out.base_le hi)); clear o4 k4 n4)
        go_roundg (n - (k + 1))
        case measure => omega
        case rel => exact ⟨k + 1, false, by omega, rfl, by go_num, rfl, HTA.out.trans (by simp), O4.out, W4.out⟩
      · go_wp2_with (at_builtin; refine push (E := RowE) 47 26 _ 48 rfl (.tmp 33) (.tmp 35) rfl Tryz.underlying26 info_row rfl (by decide) (by decide) (by decide) (.slice AM k cM) ((ps.take k).map rowP) (pk, pv) [Value.slice A2 pk.length a2, .slice A3 pv.length a3] (w2.heap.size + 1) 1 rfl rfl HOA.out HX1.out HXA.out HWA.out.size (by rw [HLK.out]; omega) ?_ (fun _ h => h.elim); intro A4 c4 w4 o4 k4 n4; rw [HLK.out] at o4 ⊢; rw [← HT.out] at o4; have O4 := Lib.hid o4; have W4 := Lib.hid (below_only HWA.out k4 (fun i hi => HOA.out.base_le hi)); clear o4 k4 n4)
        go_roundg (n - (k + 1))
        case measure => omega
        case rel => exact ⟨k + 1, (pc == 0), by omega, rfl, by go_num, rfl, HTA.out.trans (by simp), O4.out, W4.out⟩
    · obtain rfl : k = n := by omega
      have i1 : ¬ (k : Int) < (k : Int) := by omega
      have htk : ps.take k = ps := List.take_of_length_le (by rw [HN.out]; omega)
      rw [hlk] at HO ⊢
      rw [htk] at HO HG
      rw [HG.out] at HR
      clear htk hlk HG
      go_wp2_with fail
      go_loopg [11, 6, 7] m (fun gk i s6 s7 wr => ∃ (j : Nat) (g2 : Bool), j ≤ m ∧ gk = m - j ∧ i = .int .i64 (j : Int) ∧ s7 = .bool g2 ∧ Hid ((g && (ls.take j).all okL) = g2) ∧ OwnL RowE 47 wr (fun _ => False) w.heap.size s6 (ps.map rowP ++ (ls.take j).map rowL) ∧ Below w.heap.size w wr)
      case atStart => exact ⟨0, g, by omega, rfl, rfl, rfl, by simp [Hid], by simpa using HO.out, HW.out⟩
      case round =>
        clear HO HW
        obtain ⟨j, g2, hj, rfl, rfl, rfl, HG2, ho, hb⟩ := hrel
        have hlk : (ps.map rowP ++ (ls.take j).map rowL).length = k + j := by rw [List.length_append, List.length_map, List.length_map, List.length_take, HN.out, HM.out]; omega
        obtain ⟨BM, dM, rfl⟩ := ho.slice
        have HO := Lib.hid ho
        have HV := Lib.hid hb
        clear ho hb
        by_cases hjt : j < m
        · have j1 : (j : Int) < (m : Int) := by omega
          have j0 : (0 : Int) ≤ (j : Int) := by omega
          have HT := Lib.hid (take_map rowL zeroLane ls j (by rw [HM.out]; exact hjt))
          have HTA := Lib.hid (take_all okL zeroLane ls j (by rw [HM.out]; exact hjt))
          obtain ⟨bk, off, A1, a1, rfl, hbk, c0, c1, c2, c3, c4, c5, c6, c7, s1, lb⟩ := HQ.out.lane j _ (getD_get zeroLane (by rw [HM.out]; exact hjt))
          obtain ⟨x, hx⟩ : ∃ y, ls.getD j zeroLane = y := ⟨_, rfl⟩
          rw [hx] at c0 c1 c2 c3 c4 c5 c6 c7 s1 lb HT HTA
          rw [show rowL x = ((putLane x).1, (putLane x).2.1) from rfl] at HT
          rw [show okL x = ((putLane x).2.2 == 0) from rfl] at HTA
          have y0 : wr.cell? ⟨bk, off + j * 8, none⟩ = some (.slice A1 x.key.length a1) := (HV.out.cell (p := ⟨bk, _, none⟩) hbk).trans c0
          have y1 : wr.cell? ⟨bk, off + j * 8 + 1, none⟩ = some (.int .i64 x.side) := (HV.out.cell (p := ⟨bk, _, none⟩) hbk).trans c1
          have y2 : wr.cell? ⟨bk, off + j * 8 + 2, none⟩ = some (.int .i64 x.cur) := (HV.out.cell (p := ⟨bk, _, none⟩) hbk).trans c2
          have y3 : wr.cell? ⟨bk, off + j * 8 + 3, none⟩ = some (.int .i64 x.next) := (HV.out.cell (p := ⟨bk, _, none⟩) hbk).trans c3
          have y4 : wr.cell? ⟨bk, off + j * 8 + 4, none⟩ = some (.int .u64 (x.sc : Int)) := (HV.out.cell (p := ⟨bk, _, none⟩) hbk).trans c4
          have y5 : wr.cell? ⟨bk, off + j * 8 + 5, none⟩ = some (.int .u64 (x.ceil : Int)) := (HV.out.cell (p := ⟨bk, _, none⟩) hbk).trans c5
          have y6 : wr.cell? ⟨bk, off + j * 8 + 6, none⟩ = some (.int .i64 x.sec) := (HV.out.cell (p := ⟨bk, _, none⟩) hbk).trans c6
          have y7 : wr.cell? ⟨bk, off + j * 8 + 7, none⟩ = some (.int .i64 x.nano) := (HV.out.cell (p := ⟨bk, _, none⟩) hbk).trans c7
          have P := Lib.hid (refPutLane_any A1 a1 x wr (s1.1.below HV.out) lb)
          unfold laneV at P
          generalize hpp : putLane x = pp at HT HTA P
          obtain ⟨pk, pv, pc⟩ := pp
          dsimp only at HT HTA P
          have HGN : Hid ((g && (ls.take (j + 1)).all okL) = (g2 && (pc == 0))) := by rw [Hid, HTA.out, ← HG2.out, Bool.and_assoc]
          have HLK := Lib.hid hlk
          clear c0 c1 c2 c3 c4 c5 c6 c7 s1 hx hpp lb HTA HG2
          rw [hlk] at HO ⊢
          clear hlk
          go_wp2_with fail
          refine P.out.mono ?_
          rintro e w2 ⟨v1, v2, rfl, o1, o2, hb2⟩
          obtain ⟨A2, a2, rfl, t1⟩ := o1.bs
          obtain ⟨A3, a3, rfl, t2⟩ := o2.bs
          have n1 := Own.nw (w := wr) o1 (Nat.le_refl _)
          have n2 := Own.nw (w := wr) o2 (Nat.le_refl _)
          have hq1 := below_alloc hb2 (.cells #[.slice A2 pk.length a2, .slice A3 pv.length a3] 47)
          have hq2 := below_alloc hq1 (.cells #[.slice A2 pk.length a2, .slice A3 pv.length a3] 47)
          have hq0 := below_alloc (below_alloc (Below.refl w2.heap.size w2) (.cells #[.slice A2 pk.length a2, .slice A3 pv.length a3] 47)) (.cells #[.slice A2 pk.length a2, .slice A3 pv.length a3] 47)
          have p0 := (blk_cell (blk_new w2 (.cells #[.slice A2 pk.length a2, .slice A3 pv.length a3] 47)) 0).trans (b := some (Value.slice A2 pk.length a2)) rfl
          have p1 := (blk_cell (blk_new w2 (.cells #[.slice A2 pk.length a2, .slice A3 pv.length a3] 47)) 1).trans (b := some (Value.slice A3 pv.length a3)) rfl
          have HWA := Lib.hid (below_step HV.out hq2)
          have HX1 := Lib.hid (blk_two w2 (.cells #[.slice A2 pk.length a2, .slice A3 pv.length a3] 47) (.cells #[.slice A2 pk.length a2, .slice A3 pv.length a3] 47))
          have HOA := Lib.hid (HO.out.below hq2)
          have HXA := Lib.hid (fresh_row (W := wr) (k := pk) (v := pv) (N := fun i => (fun _ => False) i ∨ (Value.slice BM (k + j) dM).ownBlock = some i) (t1.below hq0) (t2.below hq0) n1 n2 (fun i hi => hi.elim False.elim (fun h => HO.out.lt h)))
          clear o1 o2 t1 t2 hb2 hq1 hq2 hq0 n1 n2
          cases g2
          · go_wp2_with (at_builtin; refine push (E := RowE) 47 26 _ 48 rfl (.tmp 56) (.tmp 58) rfl Tryz.underlying26 info_row rfl (by decide) (by decide) (by decide) (.slice BM (k + j) dM) (ps.map rowP ++ (ls.take j).map rowL) (pk, pv) [Value.slice A2 pk.length a2, .slice A3 pv.length a3] (w2.heap.size + 1) 1 rfl rfl HOA.out HX1.out HXA.out HWA.out.size (by rw [HLK.out]; omega) ?_ (fun _ h => h.elim); intro A4 c4 w4 o4 k4 n4; rw [HLK.out] at o4 ⊢; rw [List.append_assoc, ← HT.out] at o4; have O4 := Lib.hid o4; have W4 := Lib.hid (below_only HWA.out k4 (fun i hi => HOA.out.base_le hi)); clear o4 k4 n4)
            go_roundg (m - (j + 1))
            case measure => omega
            case rel => exact ⟨j + 1, false, by omega, rfl, by go_num, rfl, HGN.out.trans (by simp), O4.out, W4.out⟩
          · go_wp2_with (at_builtin; refine push (E := RowE) 47 26 _ 48 rfl (.tmp 56) (.tmp 58) rfl Tryz.underlying26 info_row rfl (by decide) (by decide) (by decide) (.slice BM (k + j) dM) (ps.map rowP ++ (ls.take j).map rowL) (pk, pv) [Value.slice A2 pk.length a2, .slice A3 pv.length a3] (w2.heap.size + 1) 1 rfl rfl HOA.out HX1.out HXA.out HWA.out.size (by rw [HLK.out]; omega) ?_ (fun _ h => h.elim); intro A4 c4 w4 o4 k4 n4; rw [HLK.out] at o4 ⊢; rw [List.append_assoc, ← HT.out] at o4; have O4 := Lib.hid o4; have W4 := Lib.hid (below_only HWA.out k4 (fun i hi => HOA.out.base_le hi)); clear o4 k4 n4)
            go_roundg (m - (j + 1))
            case measure => omega
            case rel => exact ⟨j + 1, (pc == 0), by omega, rfl, by go_num, rfl, HGN.out.trans (by simp), O4.out, W4.out⟩
        · obtain rfl : j = m := by omega
          have j1 : ¬ (j : Int) < (j : Int) := by omega
          have htj : ls.take j = ls := List.take_of_length_le (by rw [HM.out]; omega)
          rw [hlk] at HO ⊢
          rw [htj] at HO HG2
          rw [show ps.map rowP ++ ls.map rowL = rws from HRR.out] at HO
          rw [HG2.out] at HR
          have hlr : rws.length = k + j := by rw [← HRR.out]; unfold rowsPL; rw [List.length_append, List.length_map, List.length_map, HN.out, HM.out]
          obtain ⟨A4, c4, e4, l4⟩ := HO.out.lst (N := fun _ => False) (fun _ _ h => h)
          rw [hlr] at e4
          cases e4
          have L4 := Lib.hid l4
          have HLR := Lib.hid hlr
          have T := Lib.hid (twice_any BM dM rws wr l4)
          rw [hlr] at T
          generalize twiceB rws = tw at *
          clear htj hlk HG2 l4 hlr
          cases g2
          · have HE : Hid (res = false) := by rw [Hid, ← HR.out]; simp
            go_wp2_with fail
            exact bodyPost_ret (v := .tuple #[.slice BM (k + j) dM, .bool false]) (by simp [results, Tryz.results75, go_sem]) rfl ⟨BM, dM, by rw [HE.out, HLR.out], L4.out, HV.out⟩
          · have HE : Hid (res = !tw) := by rw [Hid, ← HR.out]; simp
            go_wp2_with fail
            refine T.out.mono ?_
            rintro e w5 ⟨q, rfl, rfl⟩
            have L5 := Lib.hid (L4.out.drewN q)
            have W5 := Lib.hid (below_drewN HV.out q)
            generalize wr.drewN q = w5 at *
            go_wp2_with fail
            exact bodyPost_ret (v := .tuple #[.slice BM (k + j) dM, .bool (!tw)]) (by simp [results, Tryz.results75, go_sem]) rfl ⟨BM, dM, by rw [HE.out, HLR.out], L5.out, W5.out⟩
end Go.Proofs.YtafdhccdjbfepaaGreat.Lst
/- The program's State answers what the document's State answers. -/
namespace Go.Proofs.YtafdhccdjbfepaaGreat.Lst
open Go.RowKit Go.Proofs.YtafdhccdjbfepaaGreat.K Go.Proofs.YtafdhccdjbfepaaGreat.Help Go.Proofs.YtafdhccdjbfepaaGreat.Pfx Go.Proofs.YtafdhccdjbfepaaGreat.Peer
set_option linter.unusedVariables false

/-! the three kinds -/
noncomputable def gP (r : RowD) : Option PeerD := if (peerGet r.1 r.2).2 = 0 then some (peerGet r.1 r.2).1 else none
noncomputable def gL (r : RowD) : Option LaneD := if (laneGet r.1 r.2).2 = 0 then some (laneGet r.1 r.2).1 else none
noncomputable def gB (r : RowD) : Option Int := if (bootsGet r.1 r.2).2 = 0 then some (bootsGet r.1 r.2).1 else none
theorem peerGet_key {k v : List UInt8} (h : (peerGet k v).2 = 0) : k = 80 :: be 4 (peerGet k v).1.link.toNat ∧ 1 ≤ (peerGet k v).1.link ∧ (peerGet k v).1.link ≤ 4294967295 := by
  unfold peerGet at h ⊢
  split at h
  · rename_i hc
    rw [if_pos hc]
    by_cases ho : peerOk (peerRd k v)
    · rw [putPeer_ok ho] at hc
      exact ⟨hc.2.1.symm, ho.1.1, ho.1.2.1⟩
    · rw [putPeer_bad ho] at hc
      cases hc.1
  · cases h
theorem laneGet_key {k v : List UInt8} (h : (laneGet k v).2 = 0) : k = 76 :: (laneGet k v).1.key := by
  unfold laneGet at h ⊢
  split at h
  · rename_i hc
    rw [if_pos hc]
    by_cases ho : laneOk (laneRd k v)
    · rw [putLane_yes ho] at hc
      exact hc.2.1.symm
    · rw [putLane_no ho] at hc
      cases hc.1
  · cases h
theorem bootsGet_key {k v : List UInt8} (h : (bootsGet k v).2 = 0) : k = [66] := by
  unfold bootsGet at h
  split at h
  · rename_i hc
    unfold putBoots at hc
    split at hc
    · cases hc.1
    · exact hc.2.1.symm
  · cases h
theorem gP_key {r : RowD} {x : PeerD} (h : gP r = some x) : r.1 = 80 :: be 4 x.link.toNat ∧ 1 ≤ x.link ∧ x.link ≤ 4294967295 := by
  unfold gP at h
  split at h
  · rename_i hc
    injection h with h
    subst h
    exact peerGet_key hc
  · cases h
theorem gL_key {r : RowD} {x : LaneD} (h : gL r = some x) : r.1 = 76 :: x.key := by
  unfold gL at h
  split at h
  · rename_i hc
    injection h with h
    subst h
    exact laneGet_key hc
  · cases h
theorem gB_key {r : RowD} {x : Int} (h : gB r = some x) : r.1 = [66] := by
  unfold gB at h
  split at h
  · rename_i hc
    exact bootsGet_key hc
  · cases h
theorem gP_only {r : RowD} {x : PeerD} (h : gP r = some x) : gL r = none ∧ gB r = none := by
  have hk := (gP_key h).1
  constructor
  · cases e : gL r with
    | none => rfl
    | some y => rw [gL_key e] at hk; injection hk with hk; cases hk
  · cases e : gB r with
    | none => rfl
    | some y => rw [gB_key e] at hk; injection hk with hk; cases hk
theorem gL_only {r : RowD} {x : LaneD} (h : gL r = some x) : gB r = none := by
  have hk := gL_key h
  cases e : gB r with
  | none => rfl
  | some y => rw [gB_key e] at hk; injection hk with hk; cases hk
noncomputable def okR (r : RowD) : Bool := (gP r).isSome || (gL r).isSome || (gB r).isSome
/-- the document's fold -/
theorem fold_ref : ∀ (l : List RowD) (s : StD), l.foldl stepS s = ((l.filterMap gP).foldl (layG ltP) s.1, (l.filterMap gL).foldl (layG ltL) s.2.1, (l.filterMap gB).foldl (fun _ v => v) s.2.2.1, s.2.2.2 && l.all okR)
  | [], s => by simp
  | r :: t, s => by
    rw [List.foldl_cons, fold_ref t]
    cases hp : gP r with
    | some x =>
      have hs : stepS s r = (layG ltP s.1 x, s.2.1, s.2.2.1, s.2.2.2) := by
        unfold gP at hp
        split at hp
        · rename_i hc; injection hp with hp; subst hp; unfold stepS; rw [if_pos hc]
        · cases hp
      rw [hs]
      simp [hp, gP_only hp, okR]
    | none =>
      have hp0 : ¬ (peerGet r.1 r.2).2 = 0 := by intro hc; unfold gP at hp; rw [if_pos hc] at hp; cases hp
      cases hq : gL r with
      | some x =>
        have hs : stepS s r = (s.1, layG ltL s.2.1 x, s.2.2.1, s.2.2.2) := by
          unfold gL at hq
          split at hq
          · rename_i hc; injection hq with hq; subst hq; unfold stepS; rw [if_neg hp0, if_pos hc]
          · cases hq
        rw [hs]
        simp [hp, hq, gL_only hq, okR]
      | none =>
        have hq0 : ¬ (laneGet r.1 r.2).2 = 0 := by intro hc; unfold gL at hq; rw [if_pos hc] at hq; cases hq
        cases hb : gB r with
        | some x =>
          have hs : stepS s r = (s.1, s.2.1, x, s.2.2.2) := by
            unfold gB at hb
            split at hb
            · rename_i hc; injection hb with hb; subst hb; unfold stepS; rw [if_neg hp0, if_neg hq0, if_pos hc]
            · cases hb
          rw [hs]
          simp [hp, hq, hb, okR]
        | none =>
          have hb0 : ¬ (bootsGet r.1 r.2).2 = 0 := by intro hc; unfold gB at hb; rw [if_pos hc] at hb; cases hb
          have hs : stepS s r = (s.1, s.2.1, s.2.2.1, false) := by unfold stepS; rw [if_neg hp0, if_neg hq0, if_neg hb0]
          rw [hs]
          simp [hp, hq, hb, okR]
theorem gP_head {c : UInt8} {t v : List UInt8} (hc : c ≠ 80) : gP (c :: t, v) = none := by
  cases e : gP (c :: t, v) with
  | none => rfl
  | some x =>
    have h := (gP_key e).1
    have h2 : c = 80 := (List.cons.inj h).1
    exact absurd h2 hc
theorem gL_head {c : UInt8} {t v : List UInt8} (hc : c ≠ 76) : gL (c :: t, v) = none := by
  cases e : gL (c :: t, v) with
  | none => rfl
  | some x =>
    have h := gL_key e
    have h2 : c = 76 := (List.cons.inj h).1
    exact absurd h2 hc
theorem gB_head {c : UInt8} {t v : List UInt8} (hc : c ≠ 66) : gB (c :: t, v) = none := by
  cases e : gB (c :: t, v) with
  | none => rfl
  | some x =>
    have h := gB_key e
    have h2 : c = 66 := (List.cons.inj h).1
    exact absurd h2 hc
theorem g_nil (v : List UInt8) : gP ([], v) = none ∧ gL ([], v) = none ∧ gB ([], v) = none := by
  refine ⟨?_, ?_, ?_⟩
  · cases e : gP ([], v) with
    | none => rfl
    | some x => have h := (gP_key e).1; exact absurd h (by simp)
  · cases e : gL ([], v) with
    | none => rfl
    | some x => have h := gL_key e; exact absurd h (by simp)
  · cases e : gB ([], v) with
    | none => rfl
    | some x => have h := gB_key e; exact absurd h (by simp)
noncomputable def pick (s : T3) (a : Option PeerD) (b : Option LaneD) (c : Option Int) : Option T3 := match a with
    | some x => some (s.1 ++ [x], s.2.1, s.2.2)
    | none => match b with
      | some x => some (s.1, s.2.1 ++ [x], s.2.2)
      | none => match c with
        | some x => some (s.1, s.2.1, x)
        | none => none
theorem stepO_nil (s : T3) (v : List UInt8) : stepO s [] v = none := rfl
theorem stepO_cons (s : T3) (c : UInt8) (t v : List UInt8) : stepO s (c :: t) v = if c = 80 then (if (peerGet (c :: t) v).2 = 0 then some (s.1 ++ [(peerGet (c :: t) v).1], s.2.1, s.2.2) else none)
    else if c = 76 then (if (laneGet (c :: t) v).2 = 0 then some (s.1, s.2.1 ++ [(laneGet (c :: t) v).1], s.2.2) else none)
    else if c = 66 then (if (bootsGet (c :: t) v).2 = 0 then some (s.1, s.2.1, (bootsGet (c :: t) v).1) else none)
    else none := by
  rfl
/-- the program's step -/
theorem stepO_eq (s : T3) (r : RowD) : stepO s r.1 r.2 = pick s (gP r) (gL r) (gB r) := by
  obtain ⟨k, v⟩ := r
  rcases k with _ | ⟨c, t⟩
  · obtain ⟨h1, h2, h3⟩ := g_nil v
    rw [h1, h2, h3]
    exact stepO_nil s v
  · show stepO s (c :: t) v = _
    rw [stepO_cons]
    by_cases h80 : c = 80
    · rw [if_pos h80, gL_head (by rw [h80]; decide), gB_head (by rw [h80]; decide)]
      unfold gP
      generalize hg : peerGet (c :: t) v = pg
      by_cases hc : pg.2 = 0
      · rw [if_pos hc]
        rw [if_pos hc]
        rfl
      · rw [if_neg hc]
        rw [if_neg hc]
        rfl
    · rw [if_neg h80, gP_head h80]
      by_cases h76 : c = 76
      · rw [if_pos h76, gB_head (by rw [h76]; decide)]
        unfold gL
        generalize hg : laneGet (c :: t) v = pg
        by_cases hc : pg.2 = 0
        · rw [if_pos hc]
          rw [if_pos hc]
          rfl
        · rw [if_neg hc]
          rw [if_neg hc]
          rfl
      · rw [if_neg h76, gL_head h76]
        by_cases h66 : c = 66
        · rw [if_pos h66]
          unfold gB
          generalize hg : bootsGet (c :: t) v = pg
          by_cases hc : pg.2 = 0
          · rw [if_pos hc]
            rw [if_pos hc]
            rfl
          · rw [if_neg hc]
            rw [if_neg hc]
            rfl
        · rw [if_neg h66, gB_head h66]
          rfl
noncomputable def stepR (s : Option T3) (r : RowD) : Option T3 := match s with | none => none | some s => stepO s r.1 r.2
theorem stepR_none : ∀ l : List RowD, l.foldl stepR none = none
  | [] => rfl
  | r :: t => stepR_none t
theorem fold_prog : ∀ (l : List RowD) (s : T3), l.foldl stepR (some s) = if l.all okR = true then some (s.1 ++ l.filterMap gP, s.2.1 ++ l.filterMap gL, (l.filterMap gB).foldl (fun _ v => v) s.2.2) else none
  | [], s => by simp
  | r :: t, s => by
    rw [List.foldl_cons]
    have hs : stepR (some s) r = stepO s r.1 r.2 := rfl
    rw [hs, stepO_eq, List.all_cons]
    cases hp : gP r with
    | some x =>
      have ho : okR r = true := by unfold okR; rw [hp]; rfl
      unfold pick
      dsimp only
      rw [fold_prog t, ho, Bool.true_and]
      simp [hp, gP_only hp]
    | none =>
      cases hq : gL r with
      | some x =>
        have ho : okR r = true := by unfold okR; rw [hp, hq]; rfl
        unfold pick
        dsimp only
        rw [fold_prog t, ho, Bool.true_and]
        simp [hp, hq, gL_only hq]
      | none =>
        cases hb : gB r with
        | some x =>
          have ho : okR r = true := by unfold okR; rw [hp, hq, hb]; rfl
          unfold pick
          dsimp only
          rw [fold_prog t, ho, Bool.true_and]
          simp [hp, hq, hb]
        | none =>
          have ho : okR r = false := by unfold okR; rw [hp, hq, hb]; rfl
          unfold pick
          dsimp only
          rw [stepR_none, ho]
          simp
/-! insertion -/
def insG {α : Type} (lt : α → α → Bool) (p : α) : List α → List α
  | [] => [p]
  | x :: r => if lt p x then p :: x :: r else x :: insG lt p r
theorem layF_done {α : Type} (lt : α → α → Bool) (p : α) : ∀ (l acc : List α), l.foldl (layF lt p) (acc, true) = (acc ++ l, true)
  | [], acc => by simp
  | x :: r, acc => by
    rw [List.foldl_cons]
    have : layF lt p (acc, true) x = (acc ++ [x], true) := by simp [layF]
    rw [this, layF_done lt p r]
    simp
theorem layF_ins {α : Type} (lt : α → α → Bool) (p : α) : ∀ (l acc : List α), (if (l.foldl (layF lt p) (acc, false)).2 then (l.foldl (layF lt p) (acc, false)).1 else (l.foldl (layF lt p) (acc, false)).1 ++ [p]) = acc ++ insG lt p l
  | [], acc => by simp [insG]
  | x :: r, acc => by
    rw [List.foldl_cons]
    by_cases h : lt p x = true
    · have : layF lt p (acc, false) x = (acc ++ [p, x], true) := by simp [layF, h]
      rw [this, layF_done]
      simp [insG, h]
    · have : layF lt p (acc, false) x = (acc ++ [x], false) := by simp [layF, h]
      rw [this, layF_ins lt p r]
      simp [insG, h]
theorem layG_ins {α : Type} (lt : α → α → Bool) (l : List α) (p : α) : layG lt l p = insG lt p l := by
  have := layF_ins lt p l []
  unfold layG
  simpa using this
section
variable {α : Type} {lt : α → α → Bool}
theorem insG_perm (p : α) : ∀ l : List α, (insG lt p l).Perm (p :: l)
  | [] => by simp [insG]
  | x :: r => by
    unfold insG
    split
    · exact List.Perm.refl _
    · exact ((insG_perm p r).cons x).trans (List.Perm.swap p x r)
theorem insG_sorted (asym : ∀ a b, lt a b = true → lt b a = false) (tr : ∀ a b c, lt b a = false → lt c b = false → lt c a = false) (p : α) : ∀ l : List α, l.Pairwise (fun a b => lt b a = false) → (insG lt p l).Pairwise (fun a b => lt b a = false)
  | [], _ => by simp [insG]
  | x :: r, h => by
    obtain ⟨h1, h2⟩ := List.pairwise_cons.1 h
    unfold insG
    by_cases hp : lt p x = true
    · rw [if_pos hp]
      refine List.pairwise_cons.2 ⟨fun y hy => ?_, h⟩
      rcases List.mem_cons.1 hy with rfl | hy
      · exact asym _ _ hp
      · exact tr _ _ _ (asym _ _ hp) (h1 y hy)
    · rw [if_neg hp]
      refine List.pairwise_cons.2 ⟨fun y hy => ?_, insG_sorted asym tr p r h2⟩
      rcases List.mem_cons.1 ((insG_perm p r).mem_iff.1 hy) with rfl | hy
      · simpa using hp
      · exact h1 y hy
theorem fold_ins (asym : ∀ a b, lt a b = true → lt b a = false) (tr : ∀ a b c, lt b a = false → lt c b = false → lt c a = false) : ∀ (xs l : List α), l.Pairwise (fun a b => lt b a = false) → (xs.foldl (layG lt) l).Pairwise (fun a b => lt b a = false) ∧ (xs.foldl (layG lt) l).Perm (l ++ xs)
  | [], l, h => ⟨h, by simp⟩
  | x :: r, l, h => by
    rw [List.foldl_cons, layG_ins]
    obtain ⟨h1, h2⟩ := fold_ins asym tr r (insG lt x l) (insG_sorted asym tr x l h)
    refine ⟨h1, h2.trans ?_⟩
    exact ((insG_perm x l).append_right r).trans (List.perm_middle.symm)
end
theorem val_acc : ∀ (l : List UInt8) (x : Nat), l.foldl (fun x b => x * 256 + b.toNat) x = x * 256 ^ l.length + val l
  | [], x => by simp [val]
  | b :: t, x => by
    have h : val (b :: t) = t.foldl (fun x b => x * 256 + b.toNat) (0 * 256 + b.toNat) := rfl
    rw [h, List.foldl_cons, val_acc t, val_acc t, List.length_cons, Nat.pow_succ]
    have e : x * 256 * 256 ^ t.length = x * (256 ^ t.length * 256) := by rw [Nat.mul_assoc, Nat.mul_comm 256]
    rw [Nat.add_mul, e, Nat.zero_mul, Nat.zero_add, Nat.add_assoc]
theorem val_cons (x : UInt8) (l : List UInt8) : val (x :: l) = x.toNat * 256 ^ l.length + val l := by
  have h : val (x :: l) = l.foldl (fun x b => x * 256 + b.toNat) (0 * 256 + x.toNat) := rfl
  rw [h, val_acc]
  simp
theorem val_mono : ∀ (l m : List UInt8), l.length = m.length → val l < val m → l < m
  | [], [], _, h => by simp at h
  | [], _ :: _, h, _ => by simp at h
  | _ :: _, [], h, _ => by simp at h
  | x :: l, y :: m, hl, h => by
    rw [val_cons, val_cons] at h
    have hlen : l.length = m.length := by simpa using hl
    rw [hlen] at h
    have h1 := val_lt l
    have h2 := val_lt m
    rw [hlen] at h1
    rw [List.cons_lt_cons_iff]
    by_cases hxy : x = y
    · subst hxy
      exact .inr ⟨rfl, val_mono l m hlen (by omega)⟩
    · refine .inl ?_
      rw [UInt8.lt_iff_toNat_lt]
      have hne : x.toNat ≠ y.toNat := fun e => hxy (UInt8.toNat_inj.1 e)
      rcases Nat.lt_or_ge x.toNat y.toNat with hc | hc
      · exact hc
      exfalso
      have hlt : y.toNat + 1 ≤ x.toNat := by omega
      have h3 : (y.toNat + 1) * 256 ^ m.length ≤ x.toNat * 256 ^ m.length := Nat.mul_le_mul_right _ hlt
      rw [Nat.add_mul, Nat.one_mul] at h3
      omega
theorem lessB_iff : ∀ (l m : List UInt8), lessB l m = decide (l < m)
  | [], [] => by simp [lessB]
  | [], y :: m => by simp [lessB]
  | x :: l, [] => by simp [lessB]
  | x :: l, y :: m => by
    unfold lessB
    by_cases h : x = y
    · subst h
      rw [if_pos rfl, lessB_iff l m]
      simp
    · rw [if_neg h]
      simp [List.cons_lt_cons_iff, h]
/-! the order of peers and of lanes -/
theorem ltP_asym (a b : PeerD) (h : ltP a b = true) : ltP b a = false := by unfold ltP at *; simp at *; omega
theorem ltP_tr (a b c : PeerD) (h1 : ltP b a = false) (h2 : ltP c b = false) : ltP c a = false := by unfold ltP at *; simp at *; omega
theorem ltL_asym (a b : LaneD) (h : ltL a b = true) : ltL b a = false := by
  unfold ltL at *
  rw [lessB_iff] at *
  simp at *
  exact List.le_of_lt h
theorem ltL_tr (a b c : LaneD) (h1 : ltL b a = false) (h2 : ltL c b = false) : ltL c a = false := by
  unfold ltL at *
  rw [lessB_iff] at *
  simp at *
  exact List.le_trans h1 h2
theorem be_inj {m n : Nat} (hm : m ≤ 4294967295) (hn : n ≤ 4294967295) (h : be 4 m = be 4 n) : m = n := by
  have := congrArg val h
  rw [val_be, val_be, Nat.mod_eq_of_lt (by omega), Nat.mod_eq_of_lt (by omega)] at this
  exact this
theorem ordP {r q : RowD} {x y : PeerD} (hx : gP r = some x) (hy : gP q = some y) (h : r.1 ≤ q.1) : ltP y x = false := by
  obtain ⟨k1, a1, b1⟩ := gP_key hx
  obtain ⟨k2, a2, b2⟩ := gP_key hy
  cases e : ltP y x with
  | false => rfl
  | true =>
    unfold ltP at e
    have hlt : y.link < x.link := by simpa using e
    exfalso
    apply h
    rw [k1, k2, List.cons_lt_cons_iff]
    refine .inr ⟨rfl, val_mono _ _ (by rw [be_len, be_len]) ?_⟩
    rw [val_be, val_be, Nat.mod_eq_of_lt (by omega), Nat.mod_eq_of_lt (by omega)]
    omega
theorem ordL {r q : RowD} {x y : LaneD} (hx : gL r = some x) (hy : gL q = some y) (h : r.1 ≤ q.1) : ltL y x = false := by
  have k1 := gL_key hx
  have k2 := gL_key hy
  cases e : ltL y x with
  | false => rfl
  | true =>
    unfold ltL at e
    rw [lessB_iff] at e
    exfalso
    apply h
    rw [k1, k2, List.cons_lt_cons_iff]
    exact .inr ⟨rfl, by simpa using e⟩
theorem one_row {l : List RowD} (hn : (l.map Prod.fst).Nodup) {r q : RowD} (hr : r ∈ l) (hq : q ∈ l) (h : r.1 = q.1) : r = q := by
  induction l with
  | nil => cases hr
  | cons x t ih =>
    rw [List.map_cons, List.nodup_cons] at hn
    rcases List.mem_cons.1 hr with e1 | hr2
    · rcases List.mem_cons.1 hq with e2 | hq2
      · rw [e1, e2]
      · exact absurd (List.mem_map.2 ⟨q, hq2, by rw [← h, e1]⟩) hn.1
    · rcases List.mem_cons.1 hq with e2 | hq2
      · exact absurd (List.mem_map.2 ⟨r, hr2, by rw [h, e2]⟩) hn.1
      · exact ih hn.2 hr2 hq2
theorem valOf_mem {l : List RowD} (hn : (l.map Prod.fst).Nodup) {r : RowD} (hr : r ∈ l) : valOf l r.1 = r.2 := by
  unfold valOf
  cases e : l.find? (fun q => q.1 == r.1) with
  | none => have := List.find?_eq_none.1 e r hr; simp at this
  | some q =>
    have h1 := List.find?_some e
    have h2 := List.mem_of_find?_eq_some e
    rw [one_row hn h2 hr (by simpa using h1)]
/-- the rows in the order of their keys -/
def rowsL (l : List RowD) : List RowD := (keysL l).map (fun k => (k, valOf l k))
theorem rowsL_perm {l : List RowD} (hn : (l.map Prod.fst).Nodup) : (rowsL l).Perm l := by
  have h1 : (rowsL l).Perm ((l.map Prod.fst).map (fun k => (k, valOf l k))) := (List.mergeSort_perm _ _).map _
  have h2 : (l.map Prod.fst).map (fun k => (k, valOf l k)) = l := by
    rw [List.map_map]
    conv => rhs; rw [← List.map_id l]
    apply List.map_congr_left
    intro r hr
    show (r.1, valOf l r.1) = r
    rw [valOf_mem hn hr]
  rw [h2] at h1
  exact h1
theorem rowsL_sorted (l : List RowD) : (rowsL l).Pairwise (fun r q => r.1 ≤ q.1) := by
  have tr : ∀ a b c : List UInt8, decide (a ≤ b) = true → decide (b ≤ c) = true → decide (a ≤ c) = true := fun a b c h1 h2 => by simp only [decide_eq_true_eq] at *; exact List.le_trans h1 h2
  have tot : ∀ a b : List UInt8, (decide (a ≤ b) || decide (b ≤ a)) = true := fun a b => by simp only [Bool.or_eq_true, decide_eq_true_eq]; exact List.le_total a b
  have h := List.pairwise_mergeSort tr tot (l.map Prod.fst)
  exact List.pairwise_map.2 (h.imp (fun h => by simpa using h))
theorem foldK_rows (l : List RowD) : foldK l = (rowsL l).foldl stepR (some ([], [], 0)) := by
  unfold foldK rowsL
  rw [List.foldl_map]
  rfl
theorem twice_nodup (l : List RowD) : twiceB l = false ↔ (l.map Prod.fst).Nodup := by
  unfold twiceB
  rw [decide_eq_false_iff_not, List.nodup_iff_pairwise_ne, List.pairwise_map, List.pairwise_iff_getElem]
  constructor
  · intro h i j hi hj hij e
    exact h ⟨j, hj, i, hij, by simpa [hi, hj] using e.symm⟩
  · rintro h ⟨i, hi, j, hij, e⟩
    refine h j i (by omega) hi hij ?_
    simpa [hi, show j < l.length by omega] using e.symm
theorem mem_fm {α : Type} {g : RowD → Option α} {l : List RowD} {x : α} (h : x ∈ l.filterMap g) : ∃ r, r ∈ l ∧ g r = some x := List.mem_filterMap.1 h
/-- both answer alike -/
theorem progState_eq (l : List RowD) : progState l = refState l := by
  unfold progState refState foldS
  rw [fold_ref]
  by_cases hn : (l.map Prod.fst).Nodup
  · rw [if_pos hn, (twice_nodup l).2 hn, foldK_rows, fold_prog]
    have hp := rowsL_perm hn
    have hso := rowsL_sorted l
    have hall : (rowsL l).all okR = l.all okR := by
      rw [Bool.eq_iff_iff, List.all_eq_true, List.all_eq_true]
      exact ⟨fun h x hx => h x (hp.mem_iff.2 hx), fun h x hx => h x (hp.mem_iff.1 hx)⟩
    rw [hall]
    dsimp only
    cases hok : l.all okR with
    | false => simp [ansK]
    | true =>
      have e1 : (l.filterMap gP).foldl (layG ltP) [] = (rowsL l).filterMap gP := by
        obtain ⟨s1, p1⟩ := fold_ins ltP_asym ltP_tr (l.filterMap gP) [] List.Pairwise.nil
        have s2 : ((rowsL l).filterMap gP).Pairwise (fun a b => ltP b a = false) := by
          rw [List.pairwise_filterMap]
          exact hso.imp (fun h a ha b hb => ordP ha hb h)
        refine List.Perm.eq_of_pairwise (le := fun a b => ltP b a = false) (fun a b ha hb h1 h2 => ?_) s1 s2 (p1.trans (by simpa using (hp.filterMap gP).symm))
        obtain ⟨r, hr, er⟩ := mem_fm (l := l) (by simpa using p1.mem_iff.1 ha)
        obtain ⟨q, hq, eq⟩ := mem_fm hb
        have hq := hp.mem_iff.1 hq
        have hl : a.link = b.link := by unfold ltP at h1 h2; simp at h1 h2; omega
        have hk : r.1 = q.1 := by rw [(gP_key er).1, (gP_key eq).1, hl]
        have := one_row hn hr hq hk
        rw [this, eq] at er
        injection er with er
        exact er.symm
      have e2 : (l.filterMap gL).foldl (layG ltL) [] = (rowsL l).filterMap gL := by
        obtain ⟨s1, p1⟩ := fold_ins ltL_asym ltL_tr (l.filterMap gL) [] List.Pairwise.nil
        have s2 : ((rowsL l).filterMap gL).Pairwise (fun a b => ltL b a = false) := by
          rw [List.pairwise_filterMap]
          exact hso.imp (fun h a ha b hb => ordL ha hb h)
        refine List.Perm.eq_of_pairwise (le := fun a b => ltL b a = false) (fun a b ha hb h1 h2 => ?_) s1 s2 (p1.trans (by simpa using (hp.filterMap gL).symm))
        obtain ⟨r, hr, er⟩ := mem_fm (l := l) (by simpa using p1.mem_iff.1 ha)
        obtain ⟨q, hq, eq⟩ := mem_fm hb
        have hq := hp.mem_iff.1 hq
        have hl : a.key = b.key := by
          unfold ltL at h1 h2
          rw [lessB_iff] at h1 h2
          simp at h1 h2
          exact List.le_antisymm h1 h2
        have hk : r.1 = q.1 := by rw [gL_key er, gL_key eq, hl]
        have := one_row hn hr hq hk
        rw [this, eq] at er
        injection er with er
        exact er.symm
      have e3 : (rowsL l).filterMap gB = l.filterMap gB := by
        have hone : ∀ (m : List Int), (∀ x ∈ m, x ∈ l.filterMap gB) → m.Pairwise (fun a b => a = b) := fun m hm => by
          rw [List.pairwise_iff_getElem]
          intro i j hi hj _
          obtain ⟨r, hr, er⟩ := mem_fm (hm _ (List.getElem_mem hi))
          obtain ⟨q, hq, eq⟩ := mem_fm (hm _ (List.getElem_mem hj))
          have := one_row hn hr hq (by rw [gB_key er, gB_key eq])
          rw [this, eq] at er
          injection er with er
          exact er.symm
        refine List.Perm.eq_of_pairwise (le := fun a b => a = b) (fun a b _ _ h1 _ => h1) (hone _ (fun x hx => (hp.filterMap gB).mem_iff.1 hx)) (hone _ (fun x hx => hx)) (hp.filterMap gB)
      rw [e1, e2, e3]
      simp [ansK]
  · rw [if_neg hn]
    have ht : twiceB l = true := by
      cases h : twiceB l with
      | true => rfl
      | false => exact absurd ((twice_nodup l).1 h) hn
    rw [ht]
    simp
end Go.Proofs.YtafdhccdjbfepaaGreat.Lst
/- The walk of rows.state. -/
namespace Go.Proofs.YtafdhccdjbfepaaGreat.Lst
open Go.RowKit Go.Proofs.YtafdhccdjbfepaaGreat.K Go.Proofs.YtafdhccdjbfepaaGreat.Help Go.Proofs.YtafdhccdjbfepaaGreat.Pfx Go.Proofs.YtafdhccdjbfepaaGreat.Peer
set_option linter.unusedVariables false

theorem GOf.below {w w' : World} {l : List RowD} {rs : List GRow} (h : GOf w l rs) (hb : Below w.heap.size w w') : GOf w' l rs := ⟨h.1, fun i x hx => by
  obtain ⟨B, b, e, s⟩ := h.2 i x hx
  exact ⟨B, b, e, s.below hb⟩⟩
theorem GMap.noU8 {w : World} {b : Nat} {rs : List GRow} (h : GMap w b rs) : NoU8 w b := by
  obtain ⟨⟨es, clock, hh, _⟩, _⟩ := h
  intro j x e
  simp [World.cell?, hh] at e
theorem GOf.only {w w' : World} {l : List RowD} {rs : List GRow} {b : Nat} (h : GOf w l rs) (k : Only w w' (fun i => i = b)) (hn : NoU8 w b) : GOf w' l rs := ⟨h.1, fun i x hx => by
  obtain ⟨B, c, e, s⟩ := h.2 i x hx
  exact ⟨B, c, e, bs_only s k (fun i hi _ => by rw [hi]; exact hn)⟩⟩
theorem dup_at {l : List RowD} {i : Nat} (hi : i < l.length) (h : (l.getD i zR).1 ∈ (l.take i).map Prod.fst) : twiceB l = true := by
  cases ht : twiceB l with
  | true => rfl
  | false =>
    have hn := (twice_nodup l).1 ht
    have e : l.getD i zR = l[i] := by simp [hi]
    rw [e] at h
    have h2 : (l.take (i + 1)).map Prod.fst = (l.take i).map Prod.fst ++ [l[i].1] := by rw [List.take_succ_eq_append_getElem hi, List.map_append]; rfl
    have h3 : ((l.take (i + 1)).map Prod.fst).Nodup := (hn.sublist ((List.take_sublist _ _).map _))
    rw [h2] at h3
    exact absurd rfl ((List.nodup_append.1 h3).2.2 _ h _ (by simp))
theorem rowsPL_p {ps : List PeerD} {ls : List LaneD} {k : Nat} (hk : k < ps.length) : (rowsPL ps ls).getD k zR = rowP (ps.getD k zeroPeer) := by
  unfold rowsPL
  have h1 : (ps.map rowP ++ ls.map rowL)[k]? = some (rowP ps[k]) := by rw [List.getElem?_append_left (by simpa using hk)]; simp [hk]
  rw [List.getD_eq_getElem?_getD, h1]
  simp [hk]
theorem rowsPL_l {ps : List PeerD} {ls : List LaneD} {j : Nat} (hj : j < ls.length) : (rowsPL ps ls).getD (ps.length + j) zR = rowL (ls.getD j zeroLane) := by
  unfold rowsPL
  have h1 : (ps.map rowP ++ ls.map rowL)[ps.length + j]? = some (rowL ls[j]) := by rw [List.getElem?_append_right (by simp)]; simp [hj]
  rw [List.getD_eq_getElem?_getD, h1]
  simp [hj]
theorem rowsPL_len (ps : List PeerD) (ls : List LaneD) : (rowsPL ps ls).length = ps.length + ls.length := by unfold rowsPL; simp
theorem take_row (l : List RowD) (k : Nat) (hk : k < l.length) : l.take (k + 1) = l.take k ++ [l.getD k zR] := by
  have e : l.getD k zR = l[k] := by simp [hk]
  rw [List.take_succ_eq_append_getElem hk, e]
theorem bad_p {ps : List PeerD} {ls : List LaneD} {k : Nat} (hk : k < ps.length) (h : okP (ps.getD k zeroPeer) = false) : goodPL ps ls = false := by
  unfold goodPL
  have : ps.all okP = false := by
    rw [List.all_eq_false]
    exact ⟨ps[k], List.getElem_mem hk, by have e : ps.getD k zeroPeer = ps[k] := by simp [hk]
                                          rw [e] at h; simp [h]⟩
  rw [this]; rfl
theorem bad_l {ps : List PeerD} {ls : List LaneD} {k : Nat} (hk : k < ls.length) (h : okL (ls.getD k zeroLane) = false) : goodPL ps ls = false := by
  unfold goodPL
  have : ls.all okL = false := by
    rw [List.all_eq_false]
    exact ⟨ls[k], List.getElem_mem hk, by have e : ls.getD k zeroLane = ls[k] := by simp [hk]
                                          rw [e] at h; simp [h]⟩
  rw [this, Bool.and_false]
def RetM (w : World) (rws : List RowD) (res : Bool) (e : Ending) (w' : World) : Prop :=
  Below w.heap.size w w' ∧ ((res = false ∧ e = .returned (.tuple #[.map none, .bool false])) ∨ (res = true ∧ ∃ b rs, e = .returned (.tuple #[.map (some b), .bool true]) ∧ w.heap.size ≤ b ∧ GMap w' b rs ∧ GOf w' rws rs))
end Go.Proofs.YtafdhccdjbfepaaGreat.Lst
/- The walk of the document's Sets. -/
namespace Go.Proofs.YtafdhccdjbfepaaGreat.Lst
open Go.RowKit Go.Proofs.YtafdhccdjbfepaaGreat.K Go.Proofs.YtafdhccdjbfepaaGreat.Help Go.Proofs.YtafdhccdjbfepaaGreat.Pfx Go.Proofs.YtafdhccdjbfepaaGreat.Peer
set_option linter.unusedVariables false

def stepA (was : List RowD) (s : List SetD) (r : RowD) : List SetD := if (hasK was r.1 && decide (valOf was r.1 = r.2)) = true then s else layG ltS s (r.1, r.2, false)
def stepB (is_ : List RowD) (s : List SetD) (r : RowD) : List SetD := if hasK is_ r.1 = true then s else layG ltS s (r.1, [], true)
abbrev QD := List SetD × Int
def setsOf (was is_ : List RowD) : List SetD := was.foldl (stepB is_) (is_.foldl (stepA was) [])
noncomputable def okPL (ps : List PeerD) (ls : List LaneD) : Bool := goodPL ps ls && !twiceB (rowsPL ps ls)
noncomputable def refSets (ps ps' : List PeerD) (ls ls' : List LaneD) : QD := if (okPL ps ls && okPL ps' ls') = true then (setsOf (rowsPL ps ls) (rowsPL ps' ls'), 0) else ([], 114)
def RetQ (w : World) (r : QD) (e : Ending) (w' : World) : Prop := ∃ A c, e = .returned (.tuple #[.slice A r.1.length c, .int .i64 r.2]) ∧ Lst SetE w' (fun _ => False) A c r.1 ∧ Below w.heap.size w w'
theorem take_fold {α β : Type} (f : β → α → β) (z : α) (s : β) (l : List α) (k : Nat) (hk : k < l.length) : (l.take (k + 1)).foldl f s = f ((l.take k).foldl f s) (l.getD k z) := by
  have e : l.getD k z = l[k] := by simp [hk]
  rw [List.take_succ_eq_append_getElem hk, List.foldl_append, e]; rfl
theorem stepA_len (was : List RowD) (s : List SetD) (r : RowD) : (stepA was s r).length ≤ s.length + 1 := by
  unfold stepA
  split
  · omega
  · rw [layG_len]; omega
theorem stepB_len (is_ : List RowD) (s : List SetD) (r : RowD) : (stepB is_ s r).length ≤ s.length + 1 := by
  unfold stepB
  split
  · omega
  · rw [layG_len]; omega
theorem set_rr {w : World} {A B : Option Addr} {a b : Nat} {k v : List UInt8} {g : Bool} (h1 : Bs w A a k) (h2 : Bs w B b v) : SetE.R w (fun _ => False) [Value.slice A k.length a, .slice B v.length b, .bool g] (k, v, g) := ⟨A, a, B, b, rfl, Bs.bsn h1, Bs.bsn h2⟩
set_option maxRecDepth 100000 in
set_option maxHeartbeats 4000000 in
theorem refSets_any (A A' B B' : Option Addr) (a a' b b' : Nat) (ps ps' : List PeerD) (ls ls' : List LaneD) (w : World) (hp : Lst PeerE w (fun _ => False) A a ps) (hp' : Lst PeerE w (fun _ => False) A' a' ps') (hq : Lst LaneE w (fun _ => False) B b ls) (hq' : Lst LaneE w (fun _ => False) B' b' ls')
    (hn : ps.length ≤ 100) (hn' : ps'.length ≤ 100) (hm : ls.length ≤ 100) (hm' : ls'.length ≤ 100) :
    Calls Tryz.prog 31 #[.slice A ps.length a, .slice A' ps'.length a', .slice B ls.length b, .slice B' ls'.length b'] w (RetQ w (refSets ps ps' ls ls')) := by
  have R1 := Lib.hid (rowsOf_any A B a b ps ls w hp hq (by omega) (by omega))
  have R2 := Lib.hid (fun W h h' => rowsOf_any A' B' a' b' ps' ls' W h h' (by omega) (by omega))
  have HP2 := Lib.hid hp'
  have HQ2 := Lib.hid hq'
  have L1 := Lib.hid (rowsPL_len ps ls)
  have L2 := Lib.hid (rowsPL_len ps' ls')
  rw [show (goodPL ps ls && !twiceB (rowsPL ps ls)) = okPL ps ls from rfl] at R1
  rw [show (goodPL ps' ls' && !twiceB (rowsPL ps' ls')) = okPL ps' ls' from rfl] at R2
  generalize hr : refSets ps ps' ls ls' = res
  have HR := Lib.hid hr
  clear hr hp hp' hq hq'
  unfold refSets at HR
  generalize rowsPL ps ls = was at *
  generalize rowsPL ps' ls' = is_ at *
  generalize okPL ps ls = g1 at *
  generalize okPL ps' ls' = g2 at *
  have LW : Hid (was.length ≤ 200) := by rw [Hid, L1.out]; omega
  have LI : Hid (is_.length ≤ 200) := by rw [Hid, L2.out]; omega
  clear L1 L2
  go_enter Tryz.func31, Tryz.ntmps31
  go_wp2_with fail
  refine R1.out.mono ?_
  rintro e w1 ⟨C1, d1, rfl, l1, hb1⟩
  have W1 := Lib.hid hb1
  have M1 := Lib.hid l1
  clear l1 hb1
  go_wp2_with fail
  refine (R2.out w1 (HP2.out.below W1.out) (HQ2.out.below W1.out)).mono ?_
  rintro e w2 ⟨C2, d2, rfl, l2, hb2⟩
  have W2 := Lib.hid (below_step W1.out hb2)
  have M2 := Lib.hid l2
  have M12 := Lib.hid (M1.out.below hb2)
  clear l2 hb2 M1 R1 R2 HP2 HQ2
  cases g1
  · have HE : Hid (res = ([], 114)) := by rw [Hid, ← HR.out]; rfl
    go_wp2_with fail
    exact bodyPost_ret (v := .tuple #[.slice none 0 0, .int .i64 114]) (by simp [results, Tryz.results31, go_sem]) rfl ⟨none, 0, by rw [HE.out]; rfl, by rw [HE.out]; exact Lst.nil _ _, W2.out⟩
  cases g2
  · have HE : Hid (res = ([], 114)) := by rw [Hid, ← HR.out]; rfl
    go_wp2_with fail
    exact bodyPost_ret (v := .tuple #[.slice none 0 0, .int .i64 114]) (by simp [results, Tryz.results31, go_sem]) rfl ⟨none, 0, by rw [HE.out]; rfl, by rw [HE.out]; exact Lst.nil _ _, W2.out⟩
  have HE : Hid (res = (was.foldl (stepB is_) (is_.foldl (stepA was) []), 0)) := by rw [Hid, ← HR.out]; rfl
  clear HR
  have m1 := M12.out.le
  have m2 := M12.out.max
  have m3 := M2.out.le
  have m4 := M2.out.max
  generalize hni : is_.length = ni at *
  have HNI := Lib.hid hni
  generalize hnw : was.length = nw at *
  have HNW := Lib.hid hnw
  clear hni hnw
  go_wp2_with fail
  go_loopg [15, 14] ni (fun gk i s14 wr => ∃ (k : Nat) (s : List SetD) (S : Option Addr) (sc : Nat), k ≤ ni ∧ gk = ni - k ∧ i = .int .i64 (k : Int) ∧ s14 = .slice S s.length sc ∧ Hid ((is_.take k).foldl (stepA was) [] = s) ∧ Hid (s.length ≤ k) ∧ Lst SetE wr (fun _ => False) S sc s ∧ Below w2.heap.size w2 wr)
  case atStart => exact ⟨0, [], none, 0, by omega, rfl, rfl, rfl, rfl, by simp [Hid], Lst.nil _ _, Below.refl _ _⟩
  case round =>
    obtain ⟨k, s, S, sc, hk, rfl, rfl, rfl, HS, HSL, hs, hb⟩ := hrel
    have HSS := Lib.hid hs
    have HW := Lib.hid hb
    clear hs hb
    by_cases hlt : k < ni
    · have i1 : (k : Int) < (ni : Int) := by omega
      have i0 : (0 : Int) ≤ (k : Int) := by omega
      have HST := Lib.hid (take_fold (stepA was) zR [] is_ k (by rw [HNI.out]; exact hlt))
      rw [HS.out] at HST
      obtain ⟨bk, off, A1, a1, B1, b1, rfl, hbk, c0, c1, s1, s2⟩ := M2.out.row k _ (getD_get zR (by rw [HNI.out]; exact hlt))
      obtain ⟨⟨xk, xv⟩, hx⟩ : ∃ y, is_.getD k zR = y := ⟨_, rfl⟩
      rw [hx] at c0 c1 s1 s2 HST
      dsimp only at c0 c1 s1 s2
      rw [show stepA was s (xk, xv) = if (hasK was xk && decide (valOf was xk = xv)) = true then s else layG ltS s (xk, xv, false) from rfl] at HST
      have y0 : wr.cell? ⟨bk, off + k * 2, none⟩ = some (.slice A1 xk.length a1) := (HW.out.cell (p := ⟨bk, _, none⟩) hbk).trans c0
      have C0 := Lib.hid c0
      have C1' := Lib.hid c1
      have HBK := Lib.hid hbk
      have S1 := Lib.hid s1.1
      have S2 := Lib.hid s2.1
      have F := Lib.hid (find_any C1 d1 was A1 a1 xk wr (M12.out.below HW.out) (s1.1.below HW.out))
      rw [HNW.out] at F
      unfold RetF at F
      have SB := Lib.hid (fun VB vb W h h' => sameBytes VB B1 vb b1 (valOf was xk) xv W h h')
      generalize hasK was xk = ht at *
      generalize valOf was xk = hv at *
      generalize decide (hv = xv) = hs2 at *
      clear c0 c1 s1 s2 hx hbk
      go_wp2_with fail
      refine F.out.mono ?_
      rintro e w3 ⟨VB, vb, rfl, v3, hb3⟩
      have W3 := Lib.hid (below_step HW.out hb3)
      have SS3 := Lib.hid (HSS.out.below hb3)
      have V3 := Lib.hid v3
      have y1 : w3.cell? ⟨bk, off + k * 2 + 1, none⟩ = some (.slice B1 xv.length b1) := (W3.out.cell (p := ⟨bk, _, none⟩) HBK.out).trans C1'.out
      clear v3 hb3
      go_wp2_with fail
      refine (SB.out VB vb w3 V3.out (S2.out.below W3.out)).mono ?_
      rintro e w4 ⟨q, rfl, rfl⟩
      have W4 := Lib.hid (below_drewN W3.out q)
      have SS4 := Lib.hid (SS3.out.drewN q)
      generalize w3.drewN q = w4 at *
      have LB := Lib.hid (stepA_len was s (xk, xv))
      clear y0 y1
      have z0 : w4.cell? ⟨bk, off + k * 2, none⟩ = some (.slice A1 xk.length a1) := (W4.out.cell (p := ⟨bk, _, none⟩) HBK.out).trans C0.out
      have z1 : w4.cell? ⟨bk, off + k * 2 + 1, none⟩ = some (.slice B1 xv.length b1) := (W4.out.cell (p := ⟨bk, _, none⟩) HBK.out).trans C1'.out
      cases ht
      · skip
        have HSX : Hid ((is_.take (k + 1)).foldl (stepA was) [] = layG ltS s (xk, xv, false)) := by rw [Hid, HST.out]; rfl
        have HSN := Lib.hid (layG_len ltS s (xk, xv, false))
        go_wp2_with fail
        go_region_held3 (fun w' => w'.cell? ⟨bk, off + k * 2, none⟩ = some (.slice A1 xk.length a1) ∧ w'.cell? ⟨bk, off + k * 2 + 1, none⟩ = some (.slice B1 xv.length b1)) (first | go_keep | exact ⟨g0, g1⟩ | exact ⟨f0, f1⟩ | exact ⟨e0, e1⟩)
          (first
          | (go_at_call 77; refine (laySet_any S sc s A2 a2 A3 a3 (xk, xv, false) _ (by first | exact SS6.out | exact SS6.out.drewN _) (by first | exact set_rr T26.out T3.out | exact set_rr (T26.out.drewN _) (T3.out.drewN _)) (by have := HSL.out; have := LI.out; omega)).mono ?_; rintro e w7 ⟨A4, a4, rfl, l7, hb7⟩; have SS7 := Lib.hid l7; have W7 := Lib.hid (below_step (by first | exact W6.out | exact below_drewN W6.out _) hb7); have g0 : w7.cell? ⟨bk, off + k * 2, none⟩ = some (.slice A1 xk.length a1) := (W7.out.cell (p := ⟨bk, _, none⟩) HBK.out).trans C0.out; have g1 : w7.cell? ⟨bk, off + k * 2 + 1, none⟩ = some (.slice B1 xv.length b1) := (W7.out.cell (p := ⟨bk, _, none⟩) HBK.out).trans C1'.out; clear l7 hb7)
          | (go_at_call_of 47 (Value.slice B1 xv.length b1); refine (Help.bytes B1 b1 xv _ (S2.out.below (by first | exact W5.out | exact below_drewN W5.out _))).mono ?_; rintro e w6 ⟨v6, rfl, o6, hb6⟩; obtain ⟨A3, a3, rfl, t3⟩ := o6.bs; have T3 := Lib.hid t3; have W6 := Lib.hid (below_step (by first | exact W5.out | exact below_drewN W5.out _) hb6); have SS6 := Lib.hid (Lst.below (by first | exact SS5.out | exact SS5.out.drewN _) hb6); have T26 := Lib.hid (Bs.below (by first | exact T2.out | exact T2.out.drewN _) hb6); have f0 : w6.cell? ⟨bk, off + k * 2, none⟩ = some (.slice A1 xk.length a1) := (W6.out.cell (p := ⟨bk, _, none⟩) HBK.out).trans C0.out; have f1 : w6.cell? ⟨bk, off + k * 2 + 1, none⟩ = some (.slice B1 xv.length b1) := (W6.out.cell (p := ⟨bk, _, none⟩) HBK.out).trans C1'.out; clear o6 hb6 t3)
          | (go_at_call_of 47 (Value.slice A1 xk.length a1); refine (Help.bytes A1 a1 xk _ (S1.out.below (by first | exact W4.out | exact below_drewN W4.out _))).mono ?_; rintro e w5 ⟨v5, rfl, o5, hb5⟩; obtain ⟨A2, a2, rfl, t2⟩ := o5.bs; have T2 := Lib.hid t2; have W5 := Lib.hid (below_step (by first | exact W4.out | exact below_drewN W4.out _) hb5); have SS5 := Lib.hid (Lst.below (by first | exact SS4.out | exact SS4.out.drewN _) hb5); have e0 : w5.cell? ⟨bk, off + k * 2, none⟩ = some (.slice A1 xk.length a1) := (W5.out.cell (p := ⟨bk, _, none⟩) HBK.out).trans C0.out; have e1 : w5.cell? ⟨bk, off + k * 2 + 1, none⟩ = some (.slice B1 xv.length b1) := (W5.out.cell (p := ⟨bk, _, none⟩) HBK.out).trans C1'.out; clear o5 hb5 t2))
        go_wp2_with fail
        go_roundg (ni - (k + 1))
        case measure => omega
        case rel => exact ⟨k + 1, _, A4, a4, by omega, rfl, by go_num, rfl, HSX.out, by have := HSN.out; have := HSL.out; rw [Hid]; omega, by first | exact SS7.out | exact SS7.out.drewN _, by first | exact W7.out | exact below_drewN W7.out _⟩
      · cases hs2
        · skip
          have HSX : Hid ((is_.take (k + 1)).foldl (stepA was) [] = layG ltS s (xk, xv, false)) := by rw [Hid, HST.out]; rfl
          have HSN := Lib.hid (layG_len ltS s (xk, xv, false))
          go_wp2_with fail
          go_region_held3 (fun w' => w'.cell? ⟨bk, off + k * 2, none⟩ = some (.slice A1 xk.length a1) ∧ w'.cell? ⟨bk, off + k * 2 + 1, none⟩ = some (.slice B1 xv.length b1)) (first | go_keep | exact ⟨g0, g1⟩ | exact ⟨f0, f1⟩ | exact ⟨e0, e1⟩)
            (first
            | (go_at_call 77; refine (laySet_any S sc s A2 a2 A3 a3 (xk, xv, false) _ (by first | exact SS6.out | exact SS6.out.drewN _) (by first | exact set_rr T26.out T3.out | exact set_rr (T26.out.drewN _) (T3.out.drewN _)) (by have := HSL.out; have := LI.out; omega)).mono ?_; rintro e w7 ⟨A4, a4, rfl, l7, hb7⟩; have SS7 := Lib.hid l7; have W7 := Lib.hid (below_step (by first | exact W6.out | exact below_drewN W6.out _) hb7); have g0 : w7.cell? ⟨bk, off + k * 2, none⟩ = some (.slice A1 xk.length a1) := (W7.out.cell (p := ⟨bk, _, none⟩) HBK.out).trans C0.out; have g1 : w7.cell? ⟨bk, off + k * 2 + 1, none⟩ = some (.slice B1 xv.length b1) := (W7.out.cell (p := ⟨bk, _, none⟩) HBK.out).trans C1'.out; clear l7 hb7)
            | (go_at_call_of 47 (Value.slice B1 xv.length b1); refine (Help.bytes B1 b1 xv _ (S2.out.below (by first | exact W5.out | exact below_drewN W5.out _))).mono ?_; rintro e w6 ⟨v6, rfl, o6, hb6⟩; obtain ⟨A3, a3, rfl, t3⟩ := o6.bs; have T3 := Lib.hid t3; have W6 := Lib.hid (below_step (by first | exact W5.out | exact below_drewN W5.out _) hb6); have SS6 := Lib.hid (Lst.below (by first | exact SS5.out | exact SS5.out.drewN _) hb6); have T26 := Lib.hid (Bs.below (by first | exact T2.out | exact T2.out.drewN _) hb6); have f0 : w6.cell? ⟨bk, off + k * 2, none⟩ = some (.slice A1 xk.length a1) := (W6.out.cell (p := ⟨bk, _, none⟩) HBK.out).trans C0.out; have f1 : w6.cell? ⟨bk, off + k * 2 + 1, none⟩ = some (.slice B1 xv.length b1) := (W6.out.cell (p := ⟨bk, _, none⟩) HBK.out).trans C1'.out; clear o6 hb6 t3)
            | (go_at_call_of 47 (Value.slice A1 xk.length a1); refine (Help.bytes A1 a1 xk _ (S1.out.below (by first | exact W4.out | exact below_drewN W4.out _))).mono ?_; rintro e w5 ⟨v5, rfl, o5, hb5⟩; obtain ⟨A2, a2, rfl, t2⟩ := o5.bs; have T2 := Lib.hid t2; have W5 := Lib.hid (below_step (by first | exact W4.out | exact below_drewN W4.out _) hb5); have SS5 := Lib.hid (Lst.below (by first | exact SS4.out | exact SS4.out.drewN _) hb5); have e0 : w5.cell? ⟨bk, off + k * 2, none⟩ = some (.slice A1 xk.length a1) := (W5.out.cell (p := ⟨bk, _, none⟩) HBK.out).trans C0.out; have e1 : w5.cell? ⟨bk, off + k * 2 + 1, none⟩ = some (.slice B1 xv.length b1) := (W5.out.cell (p := ⟨bk, _, none⟩) HBK.out).trans C1'.out; clear o5 hb5 t2))
          go_wp2_with fail
          go_roundg (ni - (k + 1))
          case measure => omega
          case rel => exact ⟨k + 1, _, A4, a4, by omega, rfl, by go_num, rfl, HSX.out, by have := HSN.out; have := HSL.out; rw [Hid]; omega, by first | exact SS7.out | exact SS7.out.drewN _, by first | exact W7.out | exact below_drewN W7.out _⟩
        · have HSX : Hid ((is_.take (k + 1)).foldl (stepA was) [] = s) := by rw [Hid, HST.out]; rfl
          go_wp2_with fail
          go_roundg (ni - (k + 1))
          case measure => omega
          case rel => exact ⟨k + 1, s, S, sc, by omega, rfl, by go_num, rfl, HSX.out, by have := HSL.out; rw [Hid]; omega, SS4.out, W4.out⟩
    · obtain rfl : k = ni := by omega
      have i1 : ¬ (k : Int) < (k : Int) := by omega
      have HSA : Hid (is_.foldl (stepA was) [] = s) := by have := HS.out; rw [List.take_of_length_le (by rw [HNI.out]; omega)] at this; exact this
      rw [HSA.out] at HE
      clear HS HSA
      go_wp2_with fail
      go_loopg [19, 14] nw (fun gk i s14 wr => ∃ (j : Nat) (s2 : List SetD) (S : Option Addr) (sc : Nat), j ≤ nw ∧ gk = nw - j ∧ i = .int .i64 (j : Int) ∧ s14 = .slice S s2.length sc ∧ Hid ((was.take j).foldl (stepB is_) s = s2) ∧ Hid (s2.length ≤ k + j) ∧ Hid (Lst SetE wr (fun _ => False) S sc s2) ∧ Hid (Below w2.heap.size w2 wr))
      case atStart => exact ⟨0, s, S, sc, by omega, rfl, rfl, rfl, rfl, by have := HSL.out; rw [Hid]; omega, HSS, HW⟩
      case round =>
        clear HSS HW HSL
        obtain ⟨j, s2, S2, sc2, hj, rfl, rfl, rfl, HS, HSL, HSS, HW⟩ := hrel
        by_cases hjt : j < nw
        · have j1 : (j : Int) < (nw : Int) := by omega
          have j0 : (0 : Int) ≤ (j : Int) := by omega
          have HST := Lib.hid (take_fold (stepB is_) zR s was j (by rw [HNW.out]; exact hjt))
          rw [HS.out] at HST
          obtain ⟨bk, off, A1, a1, B1, b1, rfl, hbk, c0, c1, s1, s3⟩ := M12.out.row j _ (getD_get zR (by rw [HNW.out]; exact hjt))
          obtain ⟨⟨xk, xv⟩, hx⟩ : ∃ y, was.getD j zR = y := ⟨_, rfl⟩
          rw [hx] at c0 c1 s1 s3 HST
          dsimp only at c0 c1 s1 s3
          rw [show stepB is_ s2 (xk, xv) = if hasK is_ xk = true then s2 else layG ltS s2 (xk, [], true) from rfl] at HST
          have y0 : wr.cell? ⟨bk, off + j * 2, none⟩ = some (.slice A1 xk.length a1) := (HW.out.cell (p := ⟨bk, _, none⟩) hbk).trans c0
          have C0 := Lib.hid c0
          have HBK := Lib.hid hbk
          have S1 := Lib.hid s1.1
          have F := Lib.hid (find_any C2 d2 is_ A1 a1 xk wr (M2.out.below HW.out) (s1.1.below HW.out))
          rw [HNI.out] at F
          unfold RetF at F
          generalize hasK is_ xk = ht at *
          generalize valOf is_ xk = hv at *
          clear c0 c1 s1 s3 hx hbk
          go_wp2_with fail
          refine F.out.mono ?_
          rintro e w3 ⟨VB, vb, rfl, v3, hb3⟩
          have W3 := Lib.hid (below_step HW.out hb3)
          have SS3 := Lib.hid (HSS.out.below hb3)
          have z0 : w3.cell? ⟨bk, off + j * 2, none⟩ = some (.slice A1 xk.length a1) := (W3.out.cell (p := ⟨bk, _, none⟩) HBK.out).trans C0.out
          clear v3 hb3 y0
          cases ht
          · have HSX : Hid ((was.take (j + 1)).foldl (stepB is_) s = layG ltS s2 (xk, [], true)) := by rw [Hid, HST.out]; rfl
            have HSN := Lib.hid (layG_len ltS s2 (xk, [], true))
            go_wp2_with fail
            refine (Help.bytes A1 a1 xk _ (S1.out.below W3.out)).mono ?_
            rintro e w5 ⟨v5, rfl, o5, hb5⟩
            obtain ⟨A2, a2, rfl, t2⟩ := o5.bs
            have W5 := Lib.hid (below_step W3.out hb5)
            have LS := Lib.hid (laySet_any S2 sc2 s2 A2 a2 none 0 (xk, [], true) w5 (SS3.out.below hb5) (set_rr t2 (Bs.nil _ _ _)) (by have := HSL.out; have := LI.out; have := LW.out; omega))
            clear o5 hb5 t2
            go_wp2_with fail
            refine LS.out.mono ?_
            rintro e w7 ⟨A4, a4, rfl, l7, hb7⟩
            have SS7 := Lib.hid l7
            have W7 := Lib.hid (below_step W5.out hb7)
            clear l7 hb7
            go_wp2_with fail
            go_roundg (nw - (j + 1))
            case measure => omega
            case rel => exact ⟨j + 1, _, A4, a4, by omega, rfl, by go_num, rfl, HSX.out, by have := HSN.out; have := HSL.out; rw [Hid]; omega, SS7, W7⟩
          · have HSX : Hid ((was.take (j + 1)).foldl (stepB is_) s = s2) := by rw [Hid, HST.out]; rfl
            go_wp2_with fail
            go_roundg (nw - (j + 1))
            case measure => omega
            case rel => exact ⟨j + 1, s2, S2, sc2, by omega, rfl, by go_num, rfl, HSX.out, by have := HSL.out; rw [Hid]; omega, SS3, W3⟩
        · obtain rfl : j = nw := by omega
          have j1 : ¬ (j : Int) < (j : Int) := by omega
          have HSB : Hid (res = (s2, 0)) := by have := HS.out; rw [List.take_of_length_le (by rw [HNW.out]; omega)] at this; rw [Hid, HE.out, this]
          have W9 := Lib.hid (below_step W2.out HW.out)
          clear HS HE
          go_wp2_with fail
          exact bodyPost_ret (v := .tuple #[.slice S2 s2.length sc2, .int .i64 0]) (by simp [results, Tryz.results31, go_sem]) rfl ⟨S2, sc2, by rw [HSB.out], by rw [HSB.out]; exact HSS.out, W9.out⟩
end Go.Proofs.YtafdhccdjbfepaaGreat.Lst
/- bytes.Compare. -/
namespace Go.Proofs.YtafdhccdjbfepaaGreat.Lst
open Go.RowKit Go.Proofs.YtafdhccdjbfepaaGreat.K Go.Proofs.YtafdhccdjbfepaaGreat.Help Go.Proofs.YtafdhccdjbfepaaGreat.Pfx Go.Proofs.YtafdhccdjbfepaaGreat.Peer
set_option linter.unusedVariables false

theorem bytesOf_map (l : List UInt8) : Lib.bytesOf (l.map (fun b => (b.toNat : Int))) = l := by
  induction l with
  | nil => rfl
  | cons x t ih =>
    unfold Lib.bytesOf at ih ⊢
    simp only [List.map_cons, List.map_map] at ih ⊢
    rw [ih]
    simp
theorem bytesOf_bs {w : World} {A : Option Addr} {c : Nat} {l : List UInt8} (h : Bs w A c l) : (Extern.Bytes.bytesOf (.slice A l.length c)).run Tryz.prog w = .ok ⟨l.toArray⟩ w := by
  rcases A with _ | ad
  · have h0 : l = [] := by
      rcases l with _ | ⟨x, r⟩
      · rfl
      · obtain ⟨ad, h', _⟩ := h.at_ 0 (by simp)
        cases h'
    subst h0
    simp [Extern.Bytes.bytesOf]
    rfl
  · have hl := Lib.run_loadBytesX (P := Tryz.prog) w (l.map (fun b => (b.toNat : Int))) ad .empty (fun j x hj => by
      rw [List.getElem?_map] at hj
      obtain ⟨b, hb, rfl⟩ := Option.map_eq_some_iff.1 hj
      have hjl := (List.getElem?_eq_some_iff.1 hb).1
      obtain ⟨ad', e, _, hc⟩ := h.at_ j hjl
      cases e
      rw [hc, List.getD_eq_getElem?_getD, hb]
      rfl)
    rw [List.length_map, bytesOf_map] at hl
    simp only [Extern.Bytes.bytesOf]
    rw [hl]
    congr 1
    apply ByteArray.ext
    simp
theorem run_cmp (A B : Option Addr) (c d : Nat) (l m : List UInt8) (w : World) (ha : Bs w A c l) (hb : Bs w B d m) :
    (Extern.BytealgCompare.compare #[.slice A l.length c, .slice B m.length d]).run Tryz.prog w = .ok (.int .i64 (Lib.compareBytes l m)) w := by
  change Sem.run Tryz.prog (do pure (goInt (Extern.BytealgCompare.cmp (← Extern.Bytes.bytesOf (.slice A l.length c)) (← Extern.Bytes.bytesOf (.slice B m.length d))))) w = _
  simp only [Sem.run_bind, Sem.run_pure, bytesOf_bs ha, bytesOf_bs hb, Result.andThen]
  rw [Lib.cmp_eq]
  rfl
set_option maxRecDepth 100000 in
theorem bytesCompare (A B : Option Addr) (c d : Nat) (l m : List UInt8) (w : World) (ha : Bs w A c l) (hb : Bs w B d m) :
    Calls Tryz.prog 74 #[.slice A l.length c, .slice B m.length d] w (fun e w' => e = .returned (.int .i64 (Lib.compareBytes l m)) ∧ w' = w) := by
  have R := run_cmp A B c d l m w ha hb
  clear ha hb
  generalize Lib.compareBytes l m = r at *
  generalize l.length = n1 at *
  generalize m.length = n2 at *
  go_enter Tryz.func74, Tryz.ntmps74
  go_wp2_with fail
  rw [run_callFunc_extern Tryz.func114 (by kernel_rfl) (by kernel_rfl) (by kernel_rfl) (e := Extern.BytealgCompare.compare) (by kernel_rfl), R]
  simp only [Result.andThen]
  rw [Oper.upon_value]
  go_wp2_with fail
  go_ret
  exact ⟨rfl, rfl⟩
end Go.Proofs.YtafdhccdjbfepaaGreat.Lst
/- The sort of sets by their keys. -/
namespace Go.Proofs.YtafdhccdjbfepaaGreat.Lst
open Go.RowKit Go.Sort Go.Shelf Go.Proofs.YtafdhccdjbfepaaGreat.K Go.Proofs.YtafdhccdjbfepaaGreat.Help Go.Proofs.YtafdhccdjbfepaaGreat.Pfx Go.Proofs.YtafdhccdjbfepaaGreat.Peer
set_option linter.unusedVariables false

def sortSet_ren : Go.Shelf.Ren := ⟨fun | 6 => 72 | 15 => 113 | 14 => 112 | 28 => 142 | 29 => 143 | 20 => 134 | 21 => 135 | 22 => 136 | 23 => 137 | 24 => 138 | 25 => 139 | 26 => 140 | 27 => 141 | 46 => 157 | 47 => 158 | 48 => 159 | 49 => 160 | 50 => 161 | 57 => 166 | n => n, fun | 22 => 64 | 24 => 123 | 25 => 126 | 3 => 3 | 39 => 136 | 0 => 0 | 53 => 74 | 55 => 39 | 4 => 4 | 46 => 179 | 45 => 178 | 50 => 183 | 5 => 5 | 9 => 9 | 66 => 197 | 70 => 201 | 76 => 206 | 77 => 95 | n => n, fun | n => n⟩
theorem sortSet : Go.Proofs.SlLaysF0.n6 Tryz.prog sortSet_ren := {
  mixed := by kernel_rfl
  f6 := ⟨Tryz.f72.name, by decide, Tryz.func72.trans (congrArg some (by kernel_rfl))⟩
  f14 := ⟨Tryz.f112.name, by decide, Tryz.func112.trans (congrArg some (by kernel_rfl))⟩
  f15 := Tryz.func113.trans (congrArg some (by kernel_rfl))
  f20 := ⟨Tryz.f134.name, by decide, Tryz.func134.trans (congrArg some (by kernel_rfl))⟩
  f21 := ⟨Tryz.f135.name, by decide, Tryz.func135.trans (congrArg some (by kernel_rfl))⟩
  f22 := ⟨Tryz.f136.name, by decide, Tryz.func136.trans (congrArg some (by kernel_rfl))⟩
  f23 := ⟨Tryz.f137.name, by decide, Tryz.func137.trans (congrArg some (by kernel_rfl))⟩
  f24 := ⟨Tryz.f138.name, by decide, Tryz.func138.trans (congrArg some (by kernel_rfl))⟩
  f25 := ⟨Tryz.f139.name, by decide, Tryz.func139.trans (congrArg some (by kernel_rfl))⟩
  f26 := ⟨Tryz.f140.name, by decide, Tryz.func140.trans (congrArg some (by kernel_rfl))⟩
  f27 := ⟨Tryz.f141.name, by decide, Tryz.func141.trans (congrArg some (by kernel_rfl))⟩
  f28 := Tryz.func142.trans (congrArg some (by kernel_rfl))
  f29 := Tryz.func143.trans (congrArg some (by kernel_rfl))
  f46 := ⟨Tryz.f157.name, by decide, Tryz.func157.trans (congrArg some (by kernel_rfl))⟩
  f47 := Tryz.func158.trans (congrArg some (by kernel_rfl))
  f48 := Tryz.func159.trans (congrArg some (by kernel_rfl))
  f49 := ⟨Tryz.f160.name, by decide, Tryz.func160.trans (congrArg some (by kernel_rfl))⟩
  f50 := ⟨Tryz.f161.name, by decide, Tryz.func161.trans (congrArg some (by kernel_rfl))⟩
  f57 := ⟨Tryz.f166.name, by decide, Tryz.func166.trans (congrArg some (by kernel_rfl))⟩
  t0 := Tryz.underlying0
  a0 := Tryz.isAgg0
  z0 := Tryz.sizeOf0
  v0 := Tryz.zeroValue0
  t3 := Tryz.underlying3
  a3 := Tryz.isAgg3
  z3 := Tryz.sizeOf3
  v3 := Tryz.zeroValue3
  t4 := Tryz.underlying4
  a4 := Tryz.isAgg4
  z4 := Tryz.sizeOf4
  v4 := Tryz.zeroValue4
  t5 := Tryz.underlying5
  a5 := Tryz.isAgg5
  z5 := Tryz.sizeOf5
  v5 := Tryz.zeroValue5
  t9 := Tryz.underlying9
  a9 := Tryz.isAgg9
  z9 := Tryz.sizeOf9
  v9 := Tryz.zeroValue9
  t22 := Tryz.underlying64
  a22 := Tryz.isAgg64
  z22 := Tryz.sizeOf64
  v22 := Tryz.zeroValue64
  t25 := Tryz.underlying126
  a25 := Tryz.isAgg126
  z25 := Tryz.sizeOf126
  v25 := Tryz.zeroValue126
  t39 := Tryz.underlying136
  a39 := Tryz.isAgg136
  z39 := Tryz.sizeOf136
  v39 := Tryz.zeroValue136
  t45 := Tryz.underlying178
  a45 := Tryz.isAgg178
  z45 := Tryz.sizeOf178
  v45 := Tryz.zeroValue178
  t46 := Tryz.underlying179
  a46 := Tryz.isAgg179
  z46 := Tryz.sizeOf179
  v46 := Tryz.zeroValue179
  t50 := Tryz.underlying183
  a50 := Tryz.isAgg183
  z50 := Tryz.sizeOf183
  v50 := Tryz.zeroValue183
  t53 := Tryz.underlying74
  a53 := Tryz.isAgg74
  z53 := Tryz.sizeOf74
  v53 := Tryz.zeroValue74
  t55 := Tryz.underlying39
  a55 := Tryz.isAgg39
  z55 := Tryz.sizeOf39
  v55 := Tryz.zeroValue39
  t66 := Tryz.underlying197
  a66 := Tryz.isAgg197
  z66 := Tryz.sizeOf197
  v66 := Tryz.zeroValue197
  t70 := Tryz.underlying201
  a70 := Tryz.isAgg201
  z70 := Tryz.sizeOf201
  v70 := Tryz.zeroValue201
  t76 := Tryz.underlying206
  a76 := Tryz.isAgg206
  z76 := Tryz.sizeOf206
  v76 := Tryz.zeroValue206
  t77 := Tryz.underlying95
  a77 := Tryz.isAgg95
  z77 := Tryz.sizeOf95
  v77 := Tryz.zeroValue95 }
/-! bytes compared -/
theorem cmp_lt : ∀ (l m : List UInt8), decide (Lib.compareBytes l m < 0) = lessB l m
  | [], [] => by simp [Lib.compareBytes, lessB]
  | [], y :: m => by simp [Lib.compareBytes, lessB]
  | x :: l, [] => by simp [Lib.compareBytes, lessB]
  | x :: l, y :: m => by
    unfold Lib.compareBytes lessB
    by_cases h : x = y
    · subst h
      have hlt : ¬ x < x := UInt8.lt_irrefl x
      simp only [hlt, if_false, if_true]
      exact cmp_lt l m
    · rw [if_neg h]
      by_cases hlt : x < y
      · simp [hlt]
      · have : y < x := UInt8.lt_of_le_of_ne (UInt8.not_lt.1 hlt) (Ne.symm h)
        simp [hlt, this]
theorem lessB_irrefl (l : List UInt8) : lessB l l = false := by rw [lessB_iff]; simp
theorem lessB_tr {a b c : List UInt8} (h1 : lessB a b = true) (h2 : lessB b c = true) : lessB a c = true := by
  rw [lessB_iff] at *
  simp only [decide_eq_true_eq] at *
  exact List.lt_trans h1 h2
theorem lessB_ntr {a b c : List UInt8} (h1 : lessB a b = false) (h2 : lessB b c = false) : lessB a c = false := by
  rw [lessB_iff] at *
  simp only [decide_eq_false_iff_not, List.not_lt] at *
  exact List.le_trans h2 h1
theorem lessB_total {a b : List UInt8} (h1 : lessB a b = false) (h2 : lessB b a = false) : a = b := by
  rw [lessB_iff] at *
  simp only [decide_eq_false_iff_not, List.not_lt] at *
  exact List.le_antisymm h2 h1
/-- the closure -/
theorem setsCmp_any (A C : Option Addr) (a c : Nat) (k m : List UInt8) (v1 g1 v2 g2 : Value) (W : World) (o1 : v1.oneCell' = true) (o2 : v2.oneCell' = true) (h1 : Bs W A a k) (h2 : Bs W C c m) :
    Calls Tryz.prog 73 #[.agg #[.slice A k.length a, v1, g1], .agg #[.slice C m.length c, v2, g2]] W (fun e w' => e = .returned (.int .i64 (Lib.compareBytes k m)) ∧ ∃ q os', w' = grow (W.drewN q) os') := by
  have hb1 := below_alloc (Below.refl W.heap.size W) (.cells #[.slice A k.length a, v1, g1] 123)
  have hb2 := below_alloc hb1 (.cells #[.slice C m.length c, v2, g2] 123)
  have BC := Lib.hid (bytesCompare A C a c k m _ (h1.below hb2) (h2.below hb2))
  have q1 := blk_alloc (blk_new W (.cells #[.slice A k.length a, v1, g1] 123)) (.cells #[.slice C m.length c, v2, g2] 123)
  have p0 := (blk_cell q1 0).trans (b := some (Value.slice A k.length a)) rfl
  have q2 : ((W.alloc (.cells #[.slice A k.length a, v1, g1] 123)).alloc (.cells #[.slice C m.length c, v2, g2] 123)).heap[W.heap.size + 1]? = some (.cells #[.slice C m.length c, v2, g2] 123 (0, 0)) := by
    have := blk_new (W.alloc (.cells #[.slice A k.length a, v1, g1] 123)) (.cells #[.slice C m.length c, v2, g2] 123)
    simpa using this
  have p1 := (blk_cell q2 0).trans (b := some (Value.slice C m.length c)) rfl
  clear hb1 hb2 q1 q2 h1 h2
  generalize Lib.compareBytes k m = r at *
  go_enter Tryz.func73, Tryz.ntmps73
  go_wp2_with (go_at_call 74; refine BC.out.mono ?_; rintro e w' ⟨rfl, rfl⟩)
  go_ret
  exact ⟨rfl, 0, _, by rw [alloc_eq_grow, alloc_eq_grow, grow_grow]; rfl⟩
end Go.Proofs.YtafdhccdjbfepaaGreat.Lst
/- The sort of sets by their keys: the contract. -/
namespace Go.Proofs.YtafdhccdjbfepaaGreat.Lst
open Go.RowKit Go.Sort Go.Shelf Go.Proofs.YtafdhccdjbfepaaGreat.K Go.Proofs.YtafdhccdjbfepaaGreat.Help Go.Proofs.YtafdhccdjbfepaaGreat.Pfx Go.Proofs.YtafdhccdjbfepaaGreat.Peer
set_option linter.unusedVariables false

def sortS (l : List SetD) : List SetD := l.mergeSort (fun x y => !lessB y.1 x.1)
section
variable {α : Type} [Inhabited α] {enc : α → List Value}
theorem sorted_only {W : World} {g n : Nat} {k : Nat} (d : Array α) (os : Array Obj) : Only W (sortWorldK enc k W g 0 n d os) (fun i => i = g) := by
  refine ⟨rfl, rfl, rfl, by simp [sortWorldK, putRowK, putRow, mapBlock, Sort.ahead, grow], fun i hi hne => ?_⟩
  unfold sortWorldK
  rw [heap_grow_old _ _ (by simpa [putRowK, putRow, mapBlock, Sort.ahead] using hi)]
  have : g ≠ i := fun e => hne e.symm
  simp [putRowK, putRow, mapBlock, Sort.ahead, Array.getElem?_modify, this]
theorem sorted_blk {W : World} {g n : Nat} {k : Nat} {cur : Array Value} {t : TypeId} {fr : Nat × Nat} (d : Array α) (os : Array Obj) (hb : W.heap[g]? = some (.cells cur t fr)) :
    (sortWorldK enc k W g 0 n d os).heap[g]? = some (.cells (putCells id 0 (flatK enc k d) cur) t fr) := by
  have hg : g < W.heap.size := blk_lt hb
  unfold sortWorldK
  rw [heap_grow_old _ _ (by simpa [putRowK, putRow, mapBlock, Sort.ahead] using hg)]
  simp [putRowK, putRow, mapBlock, Sort.ahead, Array.getElem?_modify, hb, onCells]
theorem flat_len {k : Nat} : ∀ (raws : List (List Value)), (∀ r, r ∈ raws → r.length = k) → raws.flatten.length = raws.length * k
  | [], _ => by simp
  | r :: t, h => by
    rw [List.flatten_cons, List.length_append, flat_len t (fun x hx => h x (by simp [hx])), h r (by simp), List.length_cons, Nat.succ_mul]
    omega
theorem flatK_eq {k : Nat} (hk : ∀ x, (enc x).length = k) (hk0 : 0 < k) (d : Array α) : (flatK enc k d).toList = (d.toList.map enc).flatten := by
  apply List.ext_getElem?
  intro t
  have hl : (d.toList.map enc).flatten.length = d.size * k := by
    rw [flat_len (k := k) _ (fun r hr => by obtain ⟨x, _, rfl⟩ := List.mem_map.1 hr; exact hk x)]
    simp
  by_cases ht : t < d.size * k
  · have hd : t / k < d.size := Nat.div_lt_of_lt_mul (by rw [Nat.mul_comm]; exact ht)
    have hm : t % k < k := Nat.mod_lt _ hk0
    have h1 := flat_at (sz := k) (raws := d.toList.map enc) (fun r hr => by obtain ⟨x, _, rfl⟩ := List.mem_map.1 hr; exact hk x) (t / k) (t % k) (enc d[t / k]) (by simp [hd]) hm
    have ht2 : t / k * k + t % k = t := by rw [Nat.mul_comm]; exact Nat.div_add_mod t k
    rw [ht2] at h1
    rw [h1]
    have h2 : (flatK enc k d).toList[t]? = some ((enc d[t / k]!)[t % k]!) := by
      rw [Array.getElem?_toList]
      simp [flatK, ht]
    rw [h2, getElem!_pos d (t / k) hd, getElem!_pos (enc d[t / k]) (t % k) (by rw [hk]; exact hm), List.getElem?_eq_getElem (by rw [hk]; exact hm)]
  · rw [List.getElem?_eq_none (by simp; omega), List.getElem?_eq_none (by rw [hl]; omega)]
end
theorem put_take (F cur : Array Value) (p : Nat) (hp : F.size = p) (h : p ≤ cur.size) : (putCells id 0 F cur).toList.take p = F.toList := by
  apply List.ext_getElem?
  intro j
  by_cases hj : j < p
  · rw [List.getElem?_take_of_lt hj, Array.getElem?_toList, Array.getElem?_toList]
    simp [putCells, show j < F.size by omega, show j < cur.size by omega]
  · rw [List.getElem?_take_eq_none (by omega), List.getElem?_eq_none (by simp; omega)]
set_option maxHeartbeats 1000000 in
theorem sortSets_gen (f : FuncId) (eg : ∀ args w, (callFunc f args).run Tryz.prog w = .ok (.enter f args) w)
    (hCF : ∀ (A C : Option Addr) (a c : Nat) (k m : List UInt8) (v1 g1 v2 g2 : Value) (W : World), v1.oneCell' = true → v2.oneCell' = true → Bs W A a k → Bs W C c m → Calls Tryz.prog f #[.agg #[.slice A k.length a, v1, g1], .agg #[.slice C m.length c, v2, g2]] W (fun e w' => e = .returned (.int .i64 (Lib.compareBytes k m)) ∧ ∃ q os', w' = grow (W.drewN q) os'))
    (W : World) (B : Nat) (v : Value) (l : List SetD) (hO : OwnL SetE 123 W (fun _ => False) B v l) (hn : (l.map Prod.fst).Nodup) :
    Calls Tryz.prog 72 #[v, .func (.func f) #[] #[]] W (fun e w' => e = .returned (.tuple #[]) ∧ OwnL SetE 123 w' (fun _ => False) B v (sortS l) ∧ Only W w' (fun i => v.ownBlock = some i)) := by
  rcases hl : l with _ | ⟨x0, t⟩
  · subst hl
    obtain ⟨A, c, rfl⟩ := hO.slice
    have h : Calls Tryz.prog 72 #[.slice A 0 c, .func (.func f) #[] #[]] W _ := AnyF.slices_SortFunc_none sortSet A c _ W
    refine h.mono ?_
    rintro e w' ⟨rfl, rfl⟩
    exact ⟨rfl, by simpa [sortS] using hO, Only.refl _ _⟩
  · rw [← hl]
    have hlen : l.length = t.length + 1 := by rw [hl]; rfl
    clear hl
    obtain ⟨raws, hr, hown, hm, hR⟩ := hO
    rcases hown.2 with ⟨_, h0⟩ | ⟨g, cap, cur, rfl, hbase, hb, h1, h2, h3, h4⟩
    · omega
    have hsh : ∀ i : Fin (t.length + 1), SetR W (fun k => (fun _ => False) k ∨ (Value.slice (some ⟨g, 0, none⟩) l.length cap).ownBlock = some k) (raws.getD i.val []) (l.getD i.val zeroSet) := fun i => by
      have e1 : l[i.val]? = some (l.getD i.val zeroSet) := getD_get zeroSet (by omega)
      have e2 : raws[i.val]? = some (raws.getD i.val []) := getD_get [] (by omega)
      exact hR i.val _ _ e1 e2
    obtain ⟨enc, he⟩ : ∃ enc : Fin (t.length + 1) → List Value, ∀ i, enc i = raws.getD i.val [] := ⟨_, fun _ => rfl⟩
    obtain ⟨dat, hdt⟩ : ∃ dat : Fin (t.length + 1) → SetD, ∀ i, dat i = l.getD i.val zeroSet := ⟨_, fun _ => rfl⟩
    have hsh2 : ∀ i, SetR W (fun k => k = g) (enc i) (dat i) := fun i => by
      rw [he, hdt]
      exact SetE.reno (hsh i) (fun k hk => .inl (.inr (by rw [hk]; rfl)))
    have hk : ∀ i, (enc i).length = 3 := fun i => SetE.len (hsh2 i)
    have hone : ∀ i, ∀ u ∈ enc i, u.oneCell' = true := fun i => SetE.one (hsh2 i)
    obtain ⟨cf, hcf⟩ : ∃ cf : Fin (t.length + 1) → Fin (t.length + 1) → Int, ∀ i j, cf i j = Lib.compareBytes (dat i).1 (dat j).1 := ⟨_, fun _ _ => rfl⟩
    have hlt : ∀ i j, ltOf cf i j = lessB (dat i).1 (dat j).1 := fun i j => by unfold ltOf; rw [hcf, cmp_lt]
    have hO : SWO (ltOf cf) := ⟨fun x => by rw [hlt]; exact lessB_irrefl _, fun x y z a b => by rw [hlt] at *; exact lessB_tr a b, fun x y z a b => by rw [hlt] at *; exact lessB_ntr a b⟩
    obtain ⟨d, hd⟩ : ∃ d : Array (Fin (t.length + 1)), d = Array.ofFn (fun i => i) := ⟨_, rfl⟩
    have hds : d.size = l.length := by rw [hd, hlen]; simp
    have hdi : ∀ i (h : i < t.length + 1), d.toList[i]? = some ⟨i, h⟩ := fun i h => by
      rw [hd, Array.getElem?_toList, Array.getElem?_eq_getElem (by simpa using h), Array.getElem_ofFn]
    have hdn : ∀ i, ¬ i < t.length + 1 → d.toList[i]? = none := fun i h => by
      rw [Array.getElem?_toList]; exact Array.getElem?_eq_none (by omega)
    have hdl : d.toList.map enc = raws := by
      apply List.ext_getElem?
      intro i
      rw [List.getElem?_map]
      by_cases h : i < t.length + 1
      · rw [hdi i h, Option.map_some, he]
        exact (getD_get [] (by omega)).symm
      · rw [hdn i h, List.getElem?_eq_none (by omega)]; rfl
    have hdd : d.toList.map dat = l := by
      apply List.ext_getElem?
      intro i
      rw [List.getElem?_map]
      by_cases h : i < t.length + 1
      · rw [hdi i h, Option.map_some, hdt]
        exact (getD_get zeroSet (by omega)).symm
      · rw [hdn i h, List.getElem?_eq_none (by omega)]; rfl
    have hF : (flatK enc 3 d).toList = raws.flatten := by rw [flatK_eq hk (by decide), hdl]
    have hcmp : CmpLays Tryz.prog f #[] enc 3 cf g 0 d.size W := by
      intro m os dk _ x y
      obtain ⟨A, a, C, c, ex, s1, s2⟩ := hsh2 x
      obtain ⟨A', a', C', c', ey, u1, u2⟩ := hsh2 y
      have k := sorted_only (enc := enc) (W := W) (g := g) (n := m) (k := 3) dk os
      have hc := hCF A A' a a' (dat x).1 (dat y).1 (.slice C (dat x).2.1.length c) (.bool (dat x).2.2) (.slice C' (dat y).2.1.length c') (.bool (dat y).2.2) (sortWorldK enc 3 W g 0 m dk os) rfl rfl (s1.only k (fun i _ h => h)).1 (u1.only k (fun i _ h => h)).1
      rw [← hcf] at hc
      rw [ex, ey]
      exact hc
    have hH : HoldsK enc 3 W g 0 d := by
      intro j hj
      rw [Nat.zero_add]
      refine ⟨(blk_cell hb j).trans ?_, blk_free hb j⟩
      have hj2 : j < l.length * 3 := by rw [size_flatK, hds] at hj; exact hj
      have e1 : (cur.toList.take (l.length * 3))[j]? = raws.flatten[j]? := by rw [show cur.toList.take (l.length * 3) = raws.flatten from h4]
      rw [List.getElem?_take_of_lt hj2, Array.getElem?_toList, ← hF, Array.getElem?_toList] at e1
      rw [e1, Array.getElem?_eq_getElem hj, getElem!_pos _ j hj]
      rfl
    have hT : ∀ x y, ltOf cf x y = false → ltOf cf y x = false → x = y := fun x y a b => by
      rw [hlt] at a b
      have hke := lessB_total a b
      rw [hdt, hdt] at hke
      have hx : x.val < l.length := by omega
      have hy : y.val < l.length := by omega
      have ex : l.getD x.val zeroSet = l[x.val] := by simp [hx]
      have ey : l.getD y.val zeroSet = l[y.val] := by simp [hy]
      rw [ex, ey] at hke
      have hp := List.pairwise_iff_getElem.1 (List.nodup_iff_pairwise_ne.1 hn)
      apply Fin.ext
      rcases Nat.lt_trichotomy x.val y.val with h | h | h
      · exact absurd (by rw [List.getElem_map, List.getElem_map]; exact hke) (hp x.val y.val (by simpa using hx) (by simpa using hy) h)
      · exact h
      · exact absurd (by rw [List.getElem_map, List.getElem_map]; exact hke.symm) (hp y.val x.val (by simpa using hy) (by simpa using hx) h)
    have hc := AnyQ.slices_SortFunc_total sortSet 3 Tryz.isAgg123 Tryz.sizeOf123 enc hk hone cf hO f #[] g 0 cap d W eg hcmp hH (blk_lt hb) (by rw [hds]; omega) hT
    rw [hds] at hc
    change Calls Tryz.prog 72 _ _ _ at hc
    refine hc.mono ?_
    rintro e w' ⟨rfl, nn, os, hw⟩
    have hp : (d.toList.mergeSort fun x y => !ltOf cf y x).Perm d.toList := List.mergeSort_perm _ _
    have hsl : (d.toList.mergeSort fun x y => !ltOf cf y x).map dat = sortS l := by
      unfold sortS
      rw [List.map_mergeSort (s := fun x y => !lessB y.1 x.1) (fun a _ b _ => by rw [hlt]), hdd]
    generalize (d.toList.mergeSort fun x y => !ltOf cf y x) = dl at *
    have hdll : dl.length = l.length := by rw [hp.length_eq]; simp [hds]
    have k := sorted_only (enc := enc) (W := W) (g := g) (n := nn) (k := 3) dl.toArray os
    have hb' := sorted_blk (enc := enc) (n := nn) (k := 3) dl.toArray os hb
    rw [← hw] at k hb'
    have hF' : (flatK enc 3 dl.toArray).toList = (dl.map enc).flatten := by rw [flatK_eq hk (by decide)]
    have hfs : (flatK enc 3 dl.toArray).size = l.length * 3 := by rw [size_flatK]; simp [hdll]
    refine ⟨rfl, ⟨dl.map enc, by rw [← hsl]; simp, ?_, by rw [← hsl]; simp [hdll]; omega, fun i x raw hx hraw => ?_⟩, k.mono (fun i _ h => by rw [h]; rfl)⟩
    · rw [← hsl, List.length_map, hdll]
      refine ⟨?_, .inr ⟨g, cap, _, rfl, hbase, hb', h1, h2, by simp [putCells, h3], ?_⟩⟩
      · rw [← hF']; simp [hdll]; rfl
      · rw [← hF']; exact put_take _ _ _ hfs (by rw [h3]; exact Nat.mul_le_mul_right _ h1)
    · rw [← hsl, List.getElem?_map] at hx
      rw [List.getElem?_map] at hraw
      obtain ⟨q, hq, rfl⟩ := Option.map_eq_some_iff.1 hx
      rw [hq] at hraw
      simp only [Option.map_some, Option.some.injEq] at hraw
      subst hraw
      exact SetE.reno (SetE.only (hsh2 q) k (fun i _ h => h)) (fun i hi => .inl (by
        rcases hi with hi | hi
        · exact hi.elim
        · have : g = i := by simpa [Value.ownBlock] using hi
          exact this.symm))
theorem sortSets_any (W : World) (B : Nat) (v : Value) (l : List SetD) (hO : OwnL SetE 123 W (fun _ => False) B v l) (hn : (l.map Prod.fst).Nodup) :
    Calls Tryz.prog 72 #[v, .func (.func 73) #[] #[]] W (fun e w' => e = .returned (.tuple #[]) ∧ OwnL SetE 123 w' (fun _ => False) B v (sortS l) ∧ Only W w' (fun i => v.ownBlock = some i)) :=
  sortSets_gen 73 (enters_of Tryz.func73 (by kernel_rfl) rfl) setsCmp_any W B v l hO hn
end Go.Proofs.YtafdhccdjbfepaaGreat.Lst
/- The program's sets are the document's (plain). -/
namespace Go.Proofs.YtafdhccdjbfepaaGreat.Lst
open Go.RowKit Go.Proofs.YtafdhccdjbfepaaGreat.K Go.Proofs.YtafdhccdjbfepaaGreat.Help Go.Proofs.YtafdhccdjbfepaaGreat.Pfx Go.Proofs.YtafdhccdjbfepaaGreat.Peer
set_option linter.unusedVariables false

def fA (was : List RowD) (r : RowD) : Option SetD := if (hasK was r.1 && decide (valOf was r.1 = r.2)) = true then none else some (r.1, r.2, false)
def fB (is_ : List RowD) (r : RowD) : Option SetD := if hasK is_ r.1 = true then none else some (r.1, [], true)
def stepPA (was is_ : List RowD) (s : List SetD) (k : List UInt8) : List SetD := if (hasK was k && decide (valOf was k = valOf is_ k)) = true then s else s ++ [(k, valOf is_ k, false)]
def stepPB (is_ : List RowD) (s : List SetD) (k : List UInt8) : List SetD := if hasK is_ k = true then s else s ++ [(k, [], true)]
def rawSets (was is_ : List RowD) : List SetD := (keysL was).foldl (stepPB is_) ((keysL is_).foldl (stepPA was is_) [])
theorem stepPA_len (was is_ : List RowD) (s : List SetD) (k : List UInt8) : (stepPA was is_ s k).length ≤ s.length + 1 := by
  unfold stepPA
  split
  · omega
  · simp
theorem stepPB_len (is_ : List RowD) (s : List SetD) (k : List UInt8) : (stepPB is_ s k).length ≤ s.length + 1 := by
  unfold stepPB
  split
  · omega
  · simp
theorem foldPA (was is_ : List RowD) : ∀ (ks : List (List UInt8)) (s : List SetD), ks.foldl (stepPA was is_) s = s ++ (ks.map (fun k => (k, valOf is_ k))).filterMap (fA was)
  | [], s => by simp
  | k :: t, s => by
    rw [List.foldl_cons, foldPA was is_ t, List.map_cons, List.filterMap_cons]
    unfold stepPA fA
    dsimp only
    by_cases h : (hasK was k && decide (valOf was k = valOf is_ k)) = true
    · rw [if_pos h, if_pos h]
    · rw [if_neg h, if_neg h]; simp
theorem foldPB (was is_ : List RowD) : ∀ (ks : List (List UInt8)) (s : List SetD), ks.foldl (stepPB is_) s = s ++ (ks.map (fun k => (k, valOf was k))).filterMap (fB is_)
  | [], s => by simp
  | k :: t, s => by
    rw [List.foldl_cons, foldPB was is_ t, List.map_cons, List.filterMap_cons]
    unfold stepPB fB
    dsimp only
    by_cases h : hasK is_ k = true
    · rw [if_pos h, if_pos h]
    · rw [if_neg h, if_neg h]; simp
theorem raw_eq (was is_ : List RowD) : rawSets was is_ = (rowsL is_).filterMap (fA was) ++ (rowsL was).filterMap (fB is_) := by
  unfold rawSets rowsL
  rw [foldPA, foldPB, List.nil_append]
theorem foldA (was : List RowD) : ∀ (l : List RowD) (s : List SetD), l.foldl (stepA was) s = (l.filterMap (fA was)).foldl (layG ltS) s
  | [], s => rfl
  | r :: t, s => by
    rw [List.foldl_cons, foldA was t, List.filterMap_cons]
    unfold stepA fA
    by_cases h : (hasK was r.1 && decide (valOf was r.1 = r.2)) = true
    · rw [if_pos h, if_pos h]
    · rw [if_neg h, if_neg h]; rfl
theorem foldB (is_ : List RowD) : ∀ (l : List RowD) (s : List SetD), l.foldl (stepB is_) s = (l.filterMap (fB is_)).foldl (layG ltS) s
  | [], s => rfl
  | r :: t, s => by
    rw [List.foldl_cons, foldB is_ t, List.filterMap_cons]
    unfold stepB fB
    by_cases h : hasK is_ r.1 = true
    · rw [if_pos h, if_pos h]
    · rw [if_neg h, if_neg h]; rfl
theorem setsOf_eq (was is_ : List RowD) : setsOf was is_ = (is_.filterMap (fA was) ++ was.filterMap (fB is_)).foldl (layG ltS) [] := by
  unfold setsOf
  rw [foldA, foldB, List.foldl_append]
theorem hasK_mem {l : List RowD} {k : List UInt8} : hasK l k = true ↔ k ∈ l.map Prod.fst := by
  unfold hasK
  rw [List.any_eq_true, List.mem_map]
  constructor
  · rintro ⟨r, h1, h2⟩; exact ⟨r, h1, by simpa using h2⟩
  · rintro ⟨r, h1, h2⟩; exact ⟨r, h1, by simpa using h2⟩
theorem fA_some {was : List RowD} {r : RowD} {s : SetD} (h : fA was r = some s) : s = (r.1, r.2, false) ∧ ¬ (hasK was r.1 = true ∧ valOf was r.1 = r.2) := by
  unfold fA at h
  by_cases h1 : (hasK was r.1 && decide (valOf was r.1 = r.2)) = true
  · rw [if_pos h1] at h; cases h
  · rw [if_neg h1] at h; injection h with h; exact ⟨h.symm, by simpa using h1⟩
theorem fB_some {is_ : List RowD} {r : RowD} {s : SetD} (h : fB is_ r = some s) : s = (r.1, [], true) ∧ hasK is_ r.1 = false := by
  unfold fB at h
  by_cases h1 : hasK is_ r.1 = true
  · rw [if_pos h1] at h; cases h
  · rw [if_neg h1] at h; injection h with h; exact ⟨h.symm, by simpa using h1⟩
theorem fm_sub {f : RowD → Option SetD} (hf : ∀ r s, f r = some s → s.1 = r.1) : ∀ l : List RowD, ((l.filterMap f).map Prod.fst).Sublist (l.map Prod.fst)
  | [] => by simp
  | r :: t => by
    rw [List.filterMap_cons, List.map_cons]
    cases h : f r with
    | none => exact (fm_sub hf t).cons _
    | some s => rw [List.map_cons, hf r s h]; exact (fm_sub hf t).cons_cons _
theorem all_nodup {was is_ : List RowD} (h1 : (was.map Prod.fst).Nodup) (h2 : (is_.map Prod.fst).Nodup) : ((is_.filterMap (fA was) ++ was.filterMap (fB is_)).map Prod.fst).Nodup := by
  rw [List.map_append, List.nodup_append]
  refine ⟨h2.sublist (fm_sub (fun r s h => by rw [(fA_some h).1]) _), h1.sublist (fm_sub (fun r s h => by rw [(fB_some h).1]) _), ?_⟩
  intro a ha b hb e
  subst e
  obtain ⟨s, hs, rfl⟩ := List.mem_map.1 ha
  obtain ⟨u, hu, e⟩ := List.mem_map.1 hb
  obtain ⟨r, hr, er⟩ := List.mem_filterMap.1 hs
  obtain ⟨q, hq, eq⟩ := List.mem_filterMap.1 hu
  have e1 := (fA_some er).1
  have e2 := fB_some eq
  rw [e2.1, e1] at e
  have : hasK is_ q.1 = true := hasK_mem.2 (List.mem_map.2 ⟨r, hr, by simpa using e.symm⟩)
  rw [this] at e2
  exact absurd e2.2 (by simp)
theorem one_fst {α β : Type} {l : List (α × β)} (hn : (l.map Prod.fst).Nodup) {r q : α × β} (hr : r ∈ l) (hq : q ∈ l) (h : r.1 = q.1) : r = q := by
  induction l with
  | nil => cases hr
  | cons x t ih =>
    rw [List.map_cons, List.nodup_cons] at hn
    rcases List.mem_cons.1 hr with e1 | hr2
    · rcases List.mem_cons.1 hq with e2 | hq2
      · rw [e1, e2]
      · exact absurd (List.mem_map.2 ⟨q, hq2, by rw [← h, e1]⟩) hn.1
    · rcases List.mem_cons.1 hq with e2 | hq2
      · exact absurd (List.mem_map.2 ⟨r, hr2, by rw [h, e2]⟩) hn.1
      · exact ih hn.2 hr2 hq2
theorem raw_perm {was is_ : List RowD} (h1 : (was.map Prod.fst).Nodup) (h2 : (is_.map Prod.fst).Nodup) : (rawSets was is_).Perm (is_.filterMap (fA was) ++ was.filterMap (fB is_)) := by
  rw [raw_eq]
  exact ((rowsL_perm h2).filterMap _).append ((rowsL_perm h1).filterMap _)
theorem raw_nodup {was is_ : List RowD} (h1 : (was.map Prod.fst).Nodup) (h2 : (is_.map Prod.fst).Nodup) : ((rawSets was is_).map Prod.fst).Nodup :=
  ((raw_perm h1 h2).map _).nodup_iff.2 (all_nodup h1 h2)
theorem ltS_asym (a b : SetD) (h : ltS a b = true) : ltS b a = false := by
  unfold ltS at *
  cases e : lessB b.1 a.1 with
  | false => rfl
  | true => have := lessB_tr h e; rw [lessB_irrefl] at this; cases this
theorem ltS_tr (a b c : SetD) (h1 : ltS b a = false) (h2 : ltS c b = false) : ltS c a = false := lessB_ntr h2 h1
theorem sortS_perm (l : List SetD) : (sortS l).Perm l := List.mergeSort_perm _ _
theorem sortS_sorted (l : List SetD) : (sortS l).Pairwise (fun a b => ltS b a = false) := by
  have tr : ∀ a b c : SetD, (!lessB b.1 a.1) = true → (!lessB c.1 b.1) = true → (!lessB c.1 a.1) = true := fun a b c h1 h2 => by
    simp only [Bool.not_eq_true'] at *
    exact lessB_ntr h2 h1
  have tot : ∀ a b : SetD, ((!lessB b.1 a.1) || (!lessB a.1 b.1)) = true := fun a b => by
    cases e : lessB b.1 a.1 with
    | false => rfl
    | true => have h := ltS_asym b a e; unfold ltS at h; rw [h]; rfl
  exact (List.pairwise_mergeSort tr tot l).imp (fun h => by simpa [ltS] using h)
theorem progSets_eq {was is_ : List RowD} (h1 : (was.map Prod.fst).Nodup) (h2 : (is_.map Prod.fst).Nodup) : sortS (rawSets was is_) = setsOf was is_ := by
  rw [setsOf_eq]
  obtain ⟨s1, p1⟩ := fold_ins ltS_asym ltS_tr (is_.filterMap (fA was) ++ was.filterMap (fB is_)) [] List.Pairwise.nil
  rw [List.nil_append] at p1
  have p2 := (sortS_perm (rawSets was is_)).trans (raw_perm h1 h2)
  refine List.Perm.eq_of_pairwise (le := fun a b => ltS b a = false) (fun a b ha hb e1 e2 => ?_) (sortS_sorted _) s1 (p2.trans p1.symm)
  exact one_fst (all_nodup h1 h2) (p2.mem_iff.1 ha) (p1.mem_iff.1 hb) (lessB_total e2 e1)
end Go.Proofs.YtafdhccdjbfepaaGreat.Lst
/- Tables, plain: rows in the order of their keys. -/
namespace Go.Proofs.YtafdhccdjbfepaaGreat.Lst
open Go.RowKit Go.Proofs.YtafdhccdjbfepaaGreat.K Go.Proofs.YtafdhccdjbfepaaGreat.Help
set_option linter.unusedVariables false

/-- keys rise -/
def Srt (l : List RowD) : Prop := l.Pairwise (fun r q => r.1 < q.1)
def delR (l : List RowD) (k : List UInt8) : List RowD := l.filter (fun r => decide (r.1 ≠ k))
def setR (l : List RowD) (k v : List UInt8) : List RowD := l.filter (fun r => decide (r.1 < k)) ++ (k, v) :: l.filter (fun r => decide (k < r.1))
def appS (l : List RowD) (s : SetD) : List RowD := if s.2.2 = true then delR l s.1 else setR l s.1 s.2.1
def appL (l : List RowD) (ss : List SetD) : List RowD := ss.foldl appS l
def mayB (s : SetD) : Bool := !(s.2.2 && decide (0 < s.2.1.length)) && decide (1 ≤ s.1.length ∧ s.1.length ≤ 40 ∧ s.2.1.length ≤ 480)
theorem lt_irr (a : List UInt8) : ¬ a < a := List.lt_irrefl a
theorem lt_ne {a b : List UInt8} (h : a < b) : a ≠ b := fun e => by subst e; exact lt_irr a h
theorem lt_cases {a b : List UInt8} (h : a ≠ b) : a < b ∨ b < a := by
  rcases List.le_total a b with h1 | h1
  · exact .inl (Classical.byContradiction fun h2 => h (List.le_antisymm h1 (List.not_lt.1 h2)))
  · exact .inr (Classical.byContradiction fun h2 => h (List.le_antisymm (List.not_lt.1 h2) h1))
theorem nodupF {α β : Type} {l : List (α × β)} (h : (l.map Prod.fst).Nodup) : l.Nodup := by
  rw [List.nodup_iff_pairwise_ne] at h ⊢
  rw [List.pairwise_map] at h
  exact h.imp (fun h e => h (by rw [e]))
theorem Srt.nodup {l : List RowD} (h : Srt l) : (l.map Prod.fst).Nodup := by
  rw [List.nodup_iff_pairwise_ne, List.pairwise_map]
  exact h.imp lt_ne
theorem mem_delR {l : List RowD} {k : List UInt8} {x : RowD} : x ∈ delR l k ↔ x ∈ l ∧ x.1 ≠ k := by
  unfold delR
  rw [List.mem_filter]
  simp
theorem mem_setR {l : List RowD} {k v : List UInt8} {x : RowD} : x ∈ setR l k v ↔ x = (k, v) ∨ (x ∈ l ∧ x.1 ≠ k) := by
  unfold setR
  rw [List.mem_append, List.mem_cons, List.mem_filter, List.mem_filter, decide_eq_true_eq, decide_eq_true_eq]
  constructor
  · rintro (⟨h1, h2⟩ | rfl | ⟨h1, h2⟩)
    · exact .inr ⟨h1, lt_ne h2⟩
    · exact .inl rfl
    · exact .inr ⟨h1, fun e => lt_ne h2 e.symm⟩
  · rintro (rfl | ⟨h1, h2⟩)
    · exact .inr (.inl rfl)
    · rcases lt_cases h2 with h | h
      · exact .inl ⟨h1, h⟩
      · exact .inr (.inr ⟨h1, h⟩)
theorem srt_nil : Srt [] := List.Pairwise.nil
theorem Srt.del {l : List RowD} (h : Srt l) (k : List UInt8) : Srt (delR l k) := List.Pairwise.filter _ h
theorem Srt.set {l : List RowD} (h : Srt l) (k v : List UInt8) : Srt (setR l k v) := by
  unfold Srt setR
  rw [List.pairwise_append]
  refine ⟨List.Pairwise.filter _ h, List.pairwise_cons.2 ⟨fun q hq => ?_, List.Pairwise.filter _ h⟩, fun r hr q hq => ?_⟩
  · rw [List.mem_filter] at hq; simpa using hq.2
  · rw [List.mem_filter, decide_eq_true_eq] at hr
    rcases List.mem_cons.1 hq with rfl | hq
    · exact hr.2
    · rw [List.mem_filter, decide_eq_true_eq] at hq
      exact List.lt_trans hr.2 hq.2
theorem Srt.app {l : List RowD} (h : Srt l) (s : SetD) : Srt (appS l s) := by
  unfold appS
  split
  · exact h.del _
  · exact h.set _ _
theorem Srt.appL : ∀ (ss : List SetD) {l : List RowD}, Srt l → Srt (appL l ss)
  | [], _, h => h
  | s :: t, _, h => Srt.appL t (h.app s)
/-- sorted rows are told by their members -/
theorem Srt.ext {l m : List RowD} (hl : Srt l) (hm : Srt m) (h : ∀ x, x ∈ l ↔ x ∈ m) : l = m := by
  have hp : l.Perm m := (List.perm_ext_iff_of_nodup (nodupF hl.nodup) (nodupF hm.nodup)).2 h
  exact List.Perm.eq_of_pairwise (le := fun r q : RowD => r.1 < q.1) (fun a b _ _ h1 h2 => absurd (List.lt_trans h1 h2) (lt_irr _)) hl hm hp
theorem keys_sorted {l : List RowD} (h : Srt l) : keysL l = l.map Prod.fst := by
  unfold keysL
  refine List.Perm.eq_of_pairwise (le := fun x y : List UInt8 => x ≤ y) (fun a b _ _ h1 h2 => List.le_antisymm h1 h2) ?_ ?_ (List.mergeSort_perm _ _)
  · have tr : ∀ a b c : List UInt8, decide (a ≤ b) = true → decide (b ≤ c) = true → decide (a ≤ c) = true := fun a b c h1 h2 => by simp only [decide_eq_true_eq] at *; exact List.le_trans h1 h2
    have tot : ∀ a b : List UInt8, (decide (a ≤ b) || decide (b ≤ a)) = true := fun a b => by simp only [Bool.or_eq_true, decide_eq_true_eq]; exact List.le_total a b
    exact (List.pairwise_mergeSort tr tot (l.map Prod.fst)).imp (fun h => by simpa using h)
  · rw [List.pairwise_map]
    exact h.imp (fun h => List.le_of_lt h)
theorem rowsL_srt {l : List RowD} (h : Srt l) : rowsL l = l := by
  unfold rowsL
  rw [keys_sorted h, List.map_map]
  conv => rhs; rw [← List.map_id l]
  apply List.map_congr_left
  intro r hr
  show (r.1, valOf l r.1) = r
  rw [valOf_mem h.nodup hr]
theorem valOf_not {l : List RowD} {k : List UInt8} (h : hasK l k = false) : valOf l k = [] := by
  unfold valOf
  cases e : l.find? (fun r => r.1 == k) with
  | none => rfl
  | some r =>
    have h1 := List.find?_some e
    have h2 := List.mem_of_find?_eq_some e
    have : hasK l k = true := hasK_mem.2 (List.mem_map.2 ⟨r, h2, by simpa using h1⟩)
    rw [this] at h
    cases h
theorem mem_val {l : List RowD} (hn : (l.map Prod.fst).Nodup) {k : List UInt8} (h : hasK l k = true) : (k, valOf l k) ∈ l := by
  obtain ⟨r, hr, rfl⟩ := List.mem_map.1 (hasK_mem.1 h)
  rw [valOf_mem hn hr]
  exact hr
end Go.Proofs.YtafdhccdjbfepaaGreat.Lst
/- Maps of rows as a table keeps them: a map whose content is a sorted list of rows. -/
namespace Go.Proofs.YtafdhccdjbfepaaGreat.Lst
open Go.RowKit Go.Maps Go.Sort Go.Proofs.YtafdhccdjbfepaaGreat.K Go.Proofs.YtafdhccdjbfepaaGreat.Help Go.Proofs.YtafdhccdjbfepaaGreat.Pfx
set_option linter.unusedVariables false

def RH (v : Value) : Option (DataW Value × List MemPlace) := some (.held v, [])
abbrev hvV (B : Option Addr) (n c : Nat) : Value := .agg #[.slice B n c]
structure HoldsL (w : World) (D : DataW Value) (l : List RowD) : Prop where
  srt : Srt l
  has_ : ∀ k, has D (.string k) = hasK l k
  at_ : ∀ r, r ∈ l → ∃ B c, (∀ z, D.atKey (.string r.1) z = .held (hvV B r.2.length c)) ∧ Bs w B c r.2
  len : ∀ r, r ∈ l → r.1.length ≤ 140737488355328
def TMap (w : World) (b n : Nat) (l : List RowD) : Prop := ∃ D, w.ownsMap Tryz.prog 9 RH b n D ∧ HoldsL w D l
section
variable {w w' : World} {b n : Nat} {l : List RowD} {D : DataW Value}
theorem HoldsL.bs (h : HoldsL w D l) (f : ∀ {B c v}, Bs w B c v → Bs w' B c v) : HoldsL w' D l := ⟨h.srt, h.has_, fun r hr => by
  obtain ⟨B, c, e, s⟩ := h.at_ r hr
  exact ⟨B, c, e, f s⟩, h.len⟩
theorem TMap.lt (h : TMap w b n l) : b < w.heap.size := by obtain ⟨D, h, _⟩ := h; exact h.lt
theorem TMap.srt (h : TMap w b n l) : Srt l := by obtain ⟨D, _, h⟩ := h; exact h.srt
theorem owns_blk {D : DataW Value} (h : w.ownsMap Tryz.prog 9 RH b n D) (hb : w'.heap[b]? = w.heap[b]?) : w'.ownsMap Tryz.prog 9 RH b n D := by
  obtain ⟨es, clock, hh, r⟩ := h
  exact ⟨es, clock, hb.trans hh, r⟩
theorem TMap.keep (h : TMap w b n l) (hb : Below w.heap.size w w') : TMap w' b n l := by
  have hlt := h.lt
  obtain ⟨D, h1, h2⟩ := h
  exact ⟨D, owns_blk h1 (hb.block _ hlt), h2.bs (fun s => s.below hb)⟩
theorem TMap.only {T : Nat → Prop} (h : TMap w b n l) (k : Only w w' T) (hT : ¬ T b) (hN : ∀ i, T i → i < w.heap.size → NoU8 w i) : TMap w' b n l := by
  have hlt := h.lt
  obtain ⟨D, h1, h2⟩ := h
  exact ⟨D, owns_blk h1 (k.block _ hlt hT), h2.bs (fun s => bs_only s k hN)⟩
theorem TMap.noU8 (h : TMap w b n l) : NoU8 w b := by
  obtain ⟨D, ⟨es, clock, hh, _⟩, _⟩ := h
  intro j x e
  simp [World.cell?, hh] at e
theorem TMap.made (w : World) : TMap (w.alloc (.map #[] 0)) w.heap.size 0 [] := ⟨_, World.ownsMap_made w _ _ _, srt_nil, fun k => rfl, (fun r hr => by cases hr), (fun r hr => by cases hr)⟩
theorem TMap.more (h : TMap w b n l) {n' : Nat} (hn : n ≤ n') : TMap w b n' l := by
  obtain ⟨D, h1, h2⟩ := h
  exact ⟨D, h1.mono hn, h2⟩
theorem TMap.size (h : w.ownsMap Tryz.prog 9 RH b n D) (h2 : HoldsL w D l) : Maps.size D = l.length := by
  obtain ⟨es, hD, hpw, _⟩ := h.entries K_str
  obtain ⟨es', hD', hko⟩ := h.keysOf
  obtain rfl : es = es' := by rw [hD] at hD'; simpa using hD'
  have hp := perm_strKeys hpw (fun p hp => by obtain ⟨v, hv⟩ := hko p hp; obtain ⟨x, _, hx, _⟩ := Maps.keyOf_str u_str hv; exact ⟨x, hx⟩) h2.srt.nodup (fun x => by rw [← hD, h2.has_, hasK_mem])
  have := hp.length_eq
  rw [hD]
  simpa [strKeys, Maps.size] using this.symm
theorem TMap.len_le (h : TMap w b n l) : l.length ≤ n := by
  obtain ⟨D, h1, h2⟩ := h
  have h3 := h1.size_le
  rwa [TMap.size h1 h2] at h3
theorem TMap.keys (h : w.ownsMap Tryz.prog 9 RH b n D) (h2 : HoldsL w D l) : (l.map Prod.fst).Perm (strKeys D) := by
  obtain ⟨es, hD, hpw, _⟩ := h.entries K_str
  obtain ⟨es', hD', hko⟩ := h.keysOf
  obtain rfl : es = es' := by rw [hD] at hD'; simpa using hD'
  rw [hD]
  exact perm_strKeys hpw (fun p hp => by obtain ⟨v, hv⟩ := hko p hp; obtain ⟨x, _, hx, _⟩ := Maps.keyOf_str u_str hv; exact ⟨x, hx⟩) h2.srt.nodup (fun x => by rw [← hD, h2.has_, hasK_mem])
theorem HoldsL.look (h : HoldsL w D l) (k : List UInt8) : ∃ B c, D.atKey (.string k) (.held (hvV none 0 0)) = .held (hvV B (valOf l k).length c) ∧ Bs w B c (valOf l k) := by
  cases hk : hasK l k with
  | true =>
    obtain ⟨B, c, e, s⟩ := h.at_ _ (mem_val h.srt.nodup hk)
    exact ⟨B, c, e _, s⟩
  | false =>
    rw [valOf_not hk]
    refine ⟨none, 0, ?_, Bs.nil _ _ _⟩
    rw [atKey_of_not_has (by rw [h.has_]; exact hk)]
    rfl
theorem HoldsL.put (h : HoldsL w D l) (hD : IsMap D) (k v : List UInt8) (hkl : k.length ≤ 140737488355328) {B : Option Addr} {c : Nat} (s : Bs w B c v) : HoldsL w (D.put (.string k) (.held (hvV B v.length c))) (setR l k v) := by
  refine ⟨h.srt.set k v, fun q => ?_, fun r hr => ?_, fun r hr => (mem_setR.1 hr).elim (fun e => by rw [e]; exact hkl) (fun h2 => h.len r h2.1)⟩
  · by_cases e : q = k
    · subst e
      rw [has_put_same hD (k := .string q) (by simp [WideAt.IsKeyLit])]
      exact (hasK_mem.2 (List.mem_map.2 ⟨(q, v), mem_setR.2 (.inl rfl), rfl⟩)).symm
    · rw [has_put_other (by intro h; injection h with h; exact e h), h.has_, Bool.eq_iff_iff, hasK_mem, hasK_mem, List.mem_map, List.mem_map]
      constructor
      · rintro ⟨r, hr, rfl⟩; exact ⟨r, mem_setR.2 (.inr ⟨hr, e⟩), rfl⟩
      · rintro ⟨r, hr, rfl⟩
        rcases mem_setR.1 hr with rfl | ⟨h1, _⟩
        · exact absurd rfl e
        · exact ⟨r, h1, rfl⟩
  · rcases mem_setR.1 hr with rfl | ⟨h1, h2⟩
    · exact ⟨B, c, fun z => atKey_put_same hD (k := .string k) (by simp [WideAt.IsKeyLit]) _ _, s⟩
    · obtain ⟨B', c', e, s'⟩ := h.at_ r h1
      exact ⟨B', c', fun z => by rw [atKey_put_other (by intro h; injection h with h; exact h2 h)]; exact e z, s'⟩
theorem HoldsL.del (h : HoldsL w D l) (k : List UInt8) : HoldsL w (D.del (.string k)) (delR l k) := by
  refine ⟨h.srt.del k, fun q => ?_, fun r hr => ?_, fun r hr => h.len r (mem_delR.1 hr).1⟩
  · by_cases e : q = k
    · subst e
      rw [has_del_same]
      symm
      cases hh : hasK (delR l q) q with
      | false => rfl
      | true =>
        obtain ⟨r, hr, e⟩ := List.mem_map.1 (hasK_mem.1 hh)
        exact absurd e (mem_delR.1 hr).2
    · rw [has_del_other (by intro h; injection h with h; exact e h), h.has_, Bool.eq_iff_iff, hasK_mem, hasK_mem, List.mem_map, List.mem_map]
      constructor
      · rintro ⟨r, hr, rfl⟩; exact ⟨r, mem_delR.2 ⟨hr, e⟩, rfl⟩
      · rintro ⟨r, hr, rfl⟩; exact ⟨r, (mem_delR.1 hr).1, rfl⟩
  · obtain ⟨h1, h2⟩ := mem_delR.1 hr
    obtain ⟨B', c', e, s'⟩ := h.at_ r h1
    exact ⟨B', c', fun z => by rw [atKey_del_other (by intro h; injection h with h; exact h2 h)]; exact e z, s'⟩
end
theorem key_str {k : List UInt8} (hk : k.length ≤ maxLen) : keyOf Tryz.prog 9 (.string ⟨k.toArray⟩) = some (.string k) := by
  simpa using WideMaps.keyOf_string_mk u_str (s := ⟨k.toArray⟩) (by simpa [ByteArray.size] using hk)
section
variable {ops : Array Oper} {rest : List Oper} {o : Oper} {a : Act} {Q : Exit → Act → World → Prop} {w : World} {b n : Nat} {l : List RowD}
end
end Go.Proofs.YtafdhccdjbfepaaGreat.Lst
/- slices.Clone and slices.Compare of bytes. -/
namespace Go.Proofs.YtafdhccdjbfepaaGreat.Lst
open Go.RowKit Go.Proofs.YtafdhccdjbfepaaGreat.K Go.Proofs.YtafdhccdjbfepaaGreat.Help Go.Proofs.YtafdhccdjbfepaaGreat.Pfx
set_option linter.unusedVariables false

section
variable {ops : Array Oper} {rest : List Oper} {o : Oper} {a : Act} {Q : Exit → Act → World → Prop}
/-- append(v, m...), m at an address, empty or not -/
theorem push_at {B : Nat} {W : World} (hgd : o.guard = none) (s x : Operand)
    (ho : o.op = .call { callee := .builtin .append, args := #[s, x], argTypes := #[33, 33] })
    (v : Value) (l m : List UInt8) (ad : Addr) (mc : Nat) (hs : a.eval s = v) (hx : a.eval x = .slice (some ad) m.length mc)
    (HO : Own W B v l) (HM : Bs W (some ad) mc m) (hBW : B ≤ W.heap.size) (hl : l.length + m.length ≤ 140737488355328)
    (h : ∀ A' c' w1, Own w1 B (.slice A' (l ++ m).length c') (l ++ m) → Only W w1 (fun k => v.ownBlock = some k) → wpList Tryz.prog ops Q rest (a.put o.dst (.slice A' (l ++ m).length c')) w1) :
    wpList Tryz.prog ops Q (o :: rest) a W := by
  obtain ⟨i0, hi, hzz⟩ := Option.map_eq_some_iff.1 info_u8
  simp only [Prod.mk.injEq] at hzz
  obtain ⟨hz0, hz1, hz2⟩ := hzz
  refine wpList_append_own_at W hgd s x _ ho B 5 i0 (.int .u8 0) 1 1 Tryz.underlying33 hi hz0 hz1 hz2 rfl (by omega) v l.length (u8s l) hs HO.1 ad m.length mc (u8s m) hx (by rw [u8s_len]; omega)
    (HM.cells rfl) (by intro u hu; simp only [u8s, u8, List.mem_map] at hu; obtain ⟨q, _, rfl⟩ := hu; rfl) (by simp only [maxLen]; omega) (by omega) hBW ?_
  intro v1 w1 hown hg _ hat
  have hO : Own w1 B v1 (l ++ m) := by
    refine ⟨?_, by simp; omega⟩
    rw [u8s_app]; simpa using hown
  obtain ⟨A', c', rfl, _⟩ := hO.bs
  exact h A' c' w1 hO ((Only.refl W (fun k => v.ownBlock = some k)).grown hg (fun k hk => .inl hk))
end
def RetC (w : World) (l : List UInt8) (e : Ending) (w' : World) : Prop := ∃ B d, e = .returned (.slice B l.length d) ∧ Bs w' B d l ∧ Below w.heap.size w w' ∧ Nw w B
theorem cmpb_nil (l : List UInt8) : Lib.compareBytes [] l = if l.length = 0 then 0 else -1 := by cases l <;> simp [Lib.compareBytes]
theorem cmpb_step {l m : List UInt8} {k : Nat} (hl : k < l.length) (hm : k < m.length) : Lib.compareBytes (l.drop k) (m.drop k) = if ord ((l.getD k 0).toNat : Int) ((m.getD k 0).toNat : Int) = 0 then Lib.compareBytes (l.drop (k + 1)) (m.drop (k + 1)) else ord ((l.getD k 0).toNat : Int) ((m.getD k 0).toNat : Int) := by
  rw [List.drop_eq_getElem_cons hl, List.drop_eq_getElem_cons hm]
  have e1 : l.getD k 0 = l[k] := by simp [hl]
  have e2 : m.getD k 0 = m[k] := by simp [hm]
  rw [e1, e2, show Lib.compareBytes (l[k] :: l.drop (k + 1)) (m[k] :: m.drop (k + 1)) = if l[k] < m[k] then -1 else if m[k] < l[k] then 1 else Lib.compareBytes (l.drop (k + 1)) (m.drop (k + 1)) from rfl]
  unfold ord
  by_cases h1 : l[k] < m[k]
  · have : (l[k].toNat : Int) < (m[k].toNat : Int) := by have := UInt8.lt_iff_toNat_lt.1 h1; omega
    rw [if_pos h1, if_pos this]
    simp
  · have n1 : ¬ (l[k].toNat : Int) < (m[k].toNat : Int) := fun h => h1 (UInt8.lt_iff_toNat_lt.2 (by omega))
    rw [if_neg h1, if_neg n1]
    by_cases h2 : m[k] < l[k]
    · have : (m[k].toNat : Int) < (l[k].toNat : Int) := by have := UInt8.lt_iff_toNat_lt.1 h2; omega
      rw [if_pos h2, if_pos this]
      simp
    · have n2 : ¬ (m[k].toNat : Int) < (l[k].toNat : Int) := fun h => h2 (UInt8.lt_iff_toNat_lt.2 (by omega))
      rw [if_neg h2, if_neg n2]
      simp
end Go.Proofs.YtafdhccdjbfepaaGreat.Lst
/- lay, Get, keys. -/
namespace Go.Proofs.YtafdhccdjbfepaaGreat.Lst
open Go.RowKit Go.Maps Go.Sort Go.Proofs.YtafdhccdjbfepaaGreat.K Go.Proofs.YtafdhccdjbfepaaGreat.Help Go.Proofs.YtafdhccdjbfepaaGreat.Pfx
set_option linter.unusedVariables false

def RetLay (w : World) (b n : Nat) (l : List RowD) (e : Ending) (w' : World) : Prop := e = .returned (.tuple #[]) ∧ TMap w' b n l ∧ Only w w' (fun i => i = b)
end Go.Proofs.YtafdhccdjbfepaaGreat.Lst
/- Get, keys, copied. -/
namespace Go.Proofs.YtafdhccdjbfepaaGreat.Lst
open Go.RowKit Go.Maps Go.Sort Go.Shelf Go.Proofs.YtafdhccdjbfepaaGreat.K Go.Proofs.YtafdhccdjbfepaaGreat.Help Go.Proofs.YtafdhccdjbfepaaGreat.Pfx Go.Proofs.YtafdhccdjbfepaaGreat.Peer
set_option linter.unusedVariables false

def RetG (w : World) (v : List UInt8) (ok : Bool) (e : Ending) (w' : World) : Prop := ∃ B d, e = .returned (.tuple #[.slice B v.length d, .bool ok]) ∧ Bs w' B d v ∧ Below w.heap.size w w' ∧ Nw w B
end Go.Proofs.YtafdhccdjbfepaaGreat.Lst
/- copied, New, Len, All. -/
namespace Go.Proofs.YtafdhccdjbfepaaGreat.Lst
open Go.RowKit Go.Maps Go.Sort Go.Shelf Go.Proofs.YtafdhccdjbfepaaGreat.K Go.Proofs.YtafdhccdjbfepaaGreat.Help Go.Proofs.YtafdhccdjbfepaaGreat.Pfx Go.Proofs.YtafdhccdjbfepaaGreat.Peer
set_option linter.unusedVariables false

def part (l : List RowD) (ss : List (List UInt8)) : List RowD := l.filter (fun r => decide (r.1 ∈ ss))
theorem mem_part {l : List RowD} {ss : List (List UInt8)} {x : RowD} : x ∈ part l ss ↔ x ∈ l ∧ x.1 ∈ ss := by
  unfold part
  rw [List.mem_filter, decide_eq_true_eq]
theorem part_step {l : List RowD} (hl : Srt l) (ss : List (List UInt8)) {x : List UInt8} (hx : hasK l x = true) : setR (part l ss) x (valOf l x) = part l (ss ++ [x]) := by
  have h1 : Srt (part l ss) := List.Pairwise.filter _ hl
  have h2 : Srt (part l (ss ++ [x])) := List.Pairwise.filter _ hl
  refine (h1.set x _).ext h2 (fun y => ?_)
  rw [mem_setR, mem_part, mem_part, List.mem_append, List.mem_singleton]
  constructor
  · rintro (rfl | ⟨⟨h3, h4⟩, _⟩)
    · exact ⟨mem_val hl.nodup hx, .inr rfl⟩
    · exact ⟨h3, .inl h4⟩
  · rintro ⟨h3, h4⟩
    by_cases e : y.1 = x
    · refine .inl (Prod.ext e ?_)
      rw [← e, valOf_mem hl.nodup h3]
    · exact .inr ⟨⟨h3, h4.resolve_right e⟩, e⟩
theorem part_nil (l : List RowD) : part l [] = [] := by unfold part; simp
theorem part_all {l : List RowD} {ss : List (List UInt8)} (h : ∀ r, r ∈ l → r.1 ∈ ss) : part l ss = l := by
  unfold part
  rw [List.filter_eq_self]
  intro r hr
  exact decide_eq_true (h r hr)
theorem ranges_blk {w w' : World} {b r n cnt : Nat} {D : DataW Value} {left : Lit → Bool} (h : w.ranges Tryz.prog 9 RH b r n D left cnt) (h1 : w'.heap[b]? = w.heap[b]?) (h2 : w'.heap[r]? = w.heap[r]?) : w'.ranges Tryz.prog 9 RH b r n D left cnt := by
  obtain ⟨es, clock, since, seen, c0, a1, a2, a3, a4, a5, a6⟩ := h
  exact ⟨es, clock, since, seen, c0, h1.trans a1, a2, a3, a4, h2.trans a5, a6⟩
theorem ranges_noU8 {w : World} {b r n cnt : Nat} {D : DataW Value} {left : Lit → Bool} (h : w.ranges Tryz.prog 9 RH b r n D left cnt) : NoU8 w r := by
  obtain ⟨es, clock, since, seen, c0, a1, a2, a3, a4, a5, a6⟩ := h
  intro j x e
  simp [World.cell?, a5] at e
theorem ranges_b_lt {w : World} {b r n cnt : Nat} {D : DataW Value} {left : Lit → Bool} (h : w.ranges Tryz.prog 9 RH b r n D left cnt) : b < w.heap.size := h.owns.lt
/-- what a map's entry at hand holds -/
theorem HoldsL.entry {w : World} {D : DataW Value} {l : List RowD} (h : HoldsL w D l) {x : List UInt8} {c : Value} {yd : DataW Value} {yp : List MemPlace} (hv : RH c = some (yd, yp)) (hat : ∀ zd, D.atKey (.string x) zd = yd) :
    hasK l x = true ∧ ∃ B d, c = hvV B (valOf l x).length d ∧ Bs w B d (valOf l x) := by
  have hh : hasK l x = true := by rw [← h.has_]; exact has_true_of_atKey hat
  obtain ⟨B, d, e, s⟩ := h.at_ _ (mem_val h.srt.nodup hh)
  unfold RH at hv
  injection hv with hv
  injection hv with hv _
  have e2 := (hat (.map [])).symm.trans (e (.map []))
  rw [← hv] at e2
  injection e2 with e2
  exact ⟨hh, B, d, e2, s⟩
def RetK (w : World) (l : List RowD) (e : Ending) (w' : World) : Prop := ∃ b, e = .returned (.map (some b)) ∧ w.heap.size ≤ b ∧ TMap w' b l.length l ∧ Below w.heap.size w w'
end Go.Proofs.YtafdhccdjbfepaaGreat.Lst
/- The same list of sets is the same. -/
namespace Go.Proofs.YtafdhccdjbfepaaGreat.Lst
open Go.RowKit Go.Proofs.YtafdhccdjbfepaaGreat.K Go.Proofs.YtafdhccdjbfepaaGreat.Help Go.Proofs.YtafdhccdjbfepaaGreat.Pfx Go.Proofs.YtafdhccdjbfepaaGreat.Peer
set_option linter.unusedVariables false

/-- set i of a list -/
theorem Lst.set {w : World} {N : Nat → Prop} {A : Option Addr} {c : Nat} {l : List SetD} (h : Lst SetE w N A c l) (i : Nat) (x : SetD) (hx : l[i]? = some x) :
    ∃ bk off A1 a1 B1 b1, A = some ⟨bk, off, none⟩ ∧ bk < w.heap.size ∧ w.cell? ⟨bk, off + i * 3, none⟩ = some (.slice A1 x.1.length a1) ∧ w.cell? ⟨bk, off + i * 3 + 1, none⟩ = some (.slice B1 x.2.1.length b1) ∧ w.cell? ⟨bk, off + i * 3 + 2, none⟩ = some (.bool x.2.2)
      ∧ BsN w N A1 a1 x.1 ∧ BsN w N B1 b1 x.2.1 := by
  obtain ⟨bk, off, raw, e, hlt, _, hc, A1, a1, B1, b1, hr, h1, h2⟩ := h.at_ i x hx
  subst hr
  exact ⟨bk, off, A1, a1, B1, b1, e, hlt, hc 0 (by decide), hc 1 (by decide), hc 2 (by decide), h1, h2⟩
set_option maxRecDepth 100000 in
set_option maxHeartbeats 2000000 in
theorem sameSets_self (A B : Option Addr) (a b : Nat) (l : List SetD) (w : World) (hp : Lst SetE w (fun _ => False) A a l) (hq : Lst SetE w (fun _ => False) B b l) :
    Calls Tryz.prog 32 #[.slice A l.length a, .slice B l.length b] w (Pure w (.bool true)) := by
  have HP := Lib.hid hp
  have HQ := Lib.hid hq
  have h1 := hp.le
  have h2 := hp.max
  have h3 := hq.le
  have h4 := hq.max
  clear hp hq
  generalize hn : l.length = n at *
  have HN := Lib.hid hn
  clear hn
  go_enter Tryz.func32, Tryz.ntmps32
  go_wp2_with fail
  go_loopg [5] n (fun gk i wr => ∃ p : Nat, p ≤ n ∧ gk = n - p ∧ i = .int .i64 (p : Int) ∧ Below w.heap.size w wr)
  case atStart => exact ⟨0, by omega, rfl, rfl, Below.refl _ _⟩
  case round =>
    obtain ⟨p, hp, rfl, rfl, hb⟩ := hrel
    have HW := Lib.hid hb
    have HG0 := Lib.hid (Since.drew hb)
    clear hb
    by_cases hlt : p < n
    · have i1 : (p : Int) < (n : Int) := by omega
      have i0 : (0 : Int) ≤ (p : Int) := by omega
      obtain ⟨bk, off, A1, a1, B1, b1, rfl, hbk, c0, c1, c2, s1, s2⟩ := HP.out.set p _ (getD_get zeroSet (by rw [HN.out]; exact hlt))
      obtain ⟨ck, cff, A2, a2, B2, b2, rfl, hck, d0, d1, d2, u1, u2⟩ := HQ.out.set p _ (getD_get zeroSet (by rw [HN.out]; exact hlt))
      have y0 := Since.cell c0 hbk
      have z0 := Since.cell d0 hck
      have Y1 := Lib.hid (Since.cell c1 hbk)
      have Z1 := Lib.hid (Since.cell d1 hck)
      have Y2 := Lib.hid (Since.cell c2 hbk)
      have Z2 := Lib.hid (Since.cell d2 hck)
      have V1 := Lib.hid (Since.bytes s1.1 u1.1)
      have V2 := Lib.hid (Since.bytes s2.1 u2.1)
      rw [show decide ((l.getD p zeroSet).1 = (l.getD p zeroSet).1) = true by simp] at V1
      rw [show decide ((l.getD p zeroSet).2.1 = (l.getD p zeroSet).2.1) = true by simp] at V2
      clear c0 c1 c2 d0 d1 d2 s1 s2 u1 u2
      generalize (l.getD p zeroSet).1.length = q1 at *
      generalize (l.getD p zeroSet).2.1.length = q2 at *
      generalize (l.getD p zeroSet).2.2 = q3 at *
      go_wp2_with fail
      refine wp_region_quiet_cls (Since w) (by kernel_rfl) (by kernel_rfl) HG0.out ?_
      repeat (go_big_quiet_step ((go_at_call 34; exact calls_cls Since.step (V1.out _))))
      refine wpQuiet_nil ?_
      intro _ hw'
      obtain ⟨nq, hw''⟩ := hw'
      subst hw''
      have Q := Lib.hid (show Below w.heap.size w nq.W from nq.ok)
      have HG1 := Lib.hid (Since.drew (w := w) (W := nq.W) nq.ok)
      have y1 := Y1.out
      have z1 := Z1.out
      clear y0 z0
      go_wp2_with fail
      refine wp_region_quiet_cls (Since w) (by kernel_rfl) (by kernel_rfl) HG1.out ?_
      repeat (go_big_quiet_step ((go_at_call 34; exact calls_cls Since.step (V2.out _))))
      refine wpQuiet_nil ?_
      intro _ hw'
      obtain ⟨nq2, hw''⟩ := hw'
      subst hw''
      have Q2 := Lib.hid (show Below w.heap.size w nq2.W from nq2.ok)
      have HG2 := Lib.hid (Since.drew (w := w) (W := nq2.W) nq2.ok)
      have y2 := Y2.out
      have z2 := Z2.out
      have e3 : (q3 != q3) = false := by simp
      clear y1 z1
      go_wp2_with fail
      refine wp_region_quiet_cls (Since w) (by kernel_rfl) (by kernel_rfl) HG2.out ?_
      repeat (go_big_quiet_step (fail))
      refine wpQuiet_nil ?_
      intro _ hw'
      obtain ⟨nq3, hw''⟩ := hw'
      subst hw''
      have Q3 := Lib.hid (show Below w.heap.size w nq3.W from nq3.ok)
      go_wp2_with fail
      go_roundg (n - (p + 1))
      case measure => omega
      case rel => exact ⟨p + 1, by omega, rfl, by go_num, Q3.out⟩
    · obtain rfl : p = n := by omega
      have i1 : ¬ (p : Int) < (p : Int) := by omega
      go_wp2_with fail
      go_ret
      exact ⟨rfl, HW.out⟩
end Go.Proofs.YtafdhccdjbfepaaGreat.Lst
/- New, Len, may, Apply. -/
namespace Go.Proofs.YtafdhccdjbfepaaGreat.Lst
open Go.RowKit Go.Maps Go.Sort Go.Shelf Go.Proofs.YtafdhccdjbfepaaGreat.K Go.Proofs.YtafdhccdjbfepaaGreat.Help Go.Proofs.YtafdhccdjbfepaaGreat.Pfx Go.Proofs.YtafdhccdjbfepaaGreat.Peer
set_option linter.unusedVariables false

section
variable {w w' : World} {p b n : Nat} {l : List RowD}
end
def mayN (nk nv : Nat) (g : Bool) : Bool := !(g && decide (0 < nv)) && decide (1 ≤ nk ∧ nk ≤ 40 ∧ nv ≤ 480)
theorem mayB_eq (s : SetD) : mayB s = mayN s.1.length s.2.1.length s.2.2 := rfl
theorem mayN_true {nk nv : Nat} {g : Bool} (h0 : g = false ∨ nv = 0) (h1 : 1 ≤ nk) (h2 : nk ≤ 40) (h3 : nv ≤ 480) : mayN nk nv g = true := by
  unfold mayN
  rw [decide_eq_true (show 1 ≤ nk ∧ nk ≤ 40 ∧ nv ≤ 480 from ⟨h1, h2, h3⟩)]
  rcases h0 with rfl | rfl <;> simp
theorem mayN_false {nk nv : Nat} {g : Bool} (h : (g = true ∧ 0 < nv) ∨ ¬ (1 ≤ nk ∧ nk ≤ 40 ∧ nv ≤ 480)) : mayN nk nv g = false := by
  unfold mayN
  rcases h with ⟨rfl, h⟩ | h
  · rw [decide_eq_true h]; rfl
  · rw [decide_eq_false h]; simp
end Go.Proofs.YtafdhccdjbfepaaGreat.Lst
/- Apply. -/
namespace Go.Proofs.YtafdhccdjbfepaaGreat.Lst
open Go.RowKit Go.Maps Go.Sort Go.Shelf Go.Proofs.YtafdhccdjbfepaaGreat.K Go.Proofs.YtafdhccdjbfepaaGreat.Help Go.Proofs.YtafdhccdjbfepaaGreat.Pfx Go.Proofs.YtafdhccdjbfepaaGreat.Peer
set_option linter.unusedVariables false

def NoCell (w : World) (b : Nat) : Prop := ∀ j, w.cell? ⟨b, j, none⟩ = none
theorem TMap.noCell {w : World} {b n : Nat} {l : List RowD} (h : TMap w b n l) : NoCell w b := by
  obtain ⟨D, ⟨es, clock, hh, _⟩, _⟩ := h
  intro j
  simp [World.cell?, hh]
theorem BsN.avoid {w : World} {A : Option Addr} {c b : Nat} {l : List UInt8} (h : BsN w (fun _ => False) A c l) (hb : NoCell w b) : BsN w (fun i => i = b) A c l :=
  ⟨h.1, fun hl ad e hn => by
    obtain ⟨ad', e', hlt, hc⟩ := h.1.at_ 0 (List.length_pos_iff.2 hl)
    rw [e] at e'
    cases e'
    have hs := cell_spot hc
    rw [hs] at hc
    have h2 : (ad.add 0).block = ad.block := addr_add_block ad 0
    rw [h2, hn, hb] at hc
    cases hc⟩
theorem Lst.avoidS {w : World} {A : Option Addr} {c b : Nat} {l : List SetD} (h : Lst SetE w (fun _ => False) A c l) (hb : NoCell w b) : Lst SetE w (fun i => i = b) A c l :=
  ⟨h.le, h.max, fun i x hx => by
    obtain ⟨bk, off, raw, e, hlt, _, hc, hr⟩ := h.at_ i x hx
    refine ⟨bk, off, raw, e, hlt, fun he => ?_, hc, ?_⟩
    · have hl : raw.length = 3 := SetE.len hr
      have h0 := hc 0 (by decide)
      subst he
      rw [hb, List.getElem?_eq_getElem (by omega)] at h0
      cases h0
    · obtain ⟨A1, a1, B1, b1, e1, s1, s2⟩ := hr
      exact ⟨A1, a1, B1, b1, e1, s1.avoid hb, s2.avoid hb⟩⟩
theorem all_no {α : Type} {f : α → Bool} {z : α} {l : List α} {k : Nat} (hk : k < l.length) (h : f (l.getD k z) = false) : l.all f = false := by
  rw [List.all_eq_false]
  have e : l.getD k z = l[k] := by simp [hk]
  rw [e] at h
  exact ⟨l[k], List.getElem_mem hk, by simp [h]⟩
end Go.Proofs.YtafdhccdjbfepaaGreat.Lst
/- Over, Set, Delete. -/
namespace Go.Proofs.YtafdhccdjbfepaaGreat.Lst
open Go.RowKit Go.Maps Go.Sort Go.Shelf Go.Proofs.YtafdhccdjbfepaaGreat.K Go.Proofs.YtafdhccdjbfepaaGreat.Help Go.Proofs.YtafdhccdjbfepaaGreat.Pfx Go.Proofs.YtafdhccdjbfepaaGreat.Peer
set_option linter.unusedVariables false

section
variable {w w' : World} {p b n c m : Nat} {l q : List RowD}
end
end Go.Proofs.YtafdhccdjbfepaaGreat.Lst
/- Sets of changes. -/
namespace Go.Proofs.YtafdhccdjbfepaaGreat.Lst
open Go.RowKit Go.Maps Go.Sort Go.Shelf Go.Proofs.YtafdhccdjbfepaaGreat.K Go.Proofs.YtafdhccdjbfepaaGreat.Help Go.Proofs.YtafdhccdjbfepaaGreat.Pfx Go.Proofs.YtafdhccdjbfepaaGreat.Peer
set_option linter.unusedVariables false

/-- the sets under way -/
structure S5 (w wr : World) (v : Value) (s : List SetD) : Prop where
  o : OwnL SetE 123 wr (fun _ => False) w.heap.size v s
  b : Below w.heap.size w wr
section
variable {w wr w1 : World} {v v1 : Value} {s : List SetD}
theorem S5.start (w : World) : S5 w w (.slice none 0 0) [] := ⟨OwnL.nil _ _ _ _ _, Below.refl _ _⟩
theorem S5.step (h : S5 w wr v s) (hb : Below wr.heap.size wr w1) : S5 w w1 v s := ⟨h.o.below hb, below_step h.b hb⟩
theorem S5.push (h : S5 w wr v s) {x : SetD} (o : OwnL SetE 123 w1 (fun _ => False) w.heap.size v1 (s ++ [x])) (k : Only wr w1 (fun k => v.ownBlock = some k)) : S5 w w1 v1 (s ++ [x]) :=
  ⟨o, below_only h.b k (fun i hi => h.o.base_le hi)⟩
theorem S5.el (h : S5 w wr v s) {W1 : World} {A B : Option Addr} {a b : Nat} {key val : List UInt8} {g : Bool} (h1 : Bs W1 A a key) (n1 : Nw wr A) (h2 : Bs W1 B b val) (n2 : Nw wr B) :
    SetE.R W1 (fun k => False ∨ v.ownBlock = some k) [Value.slice A key.length a, .slice B val.length b, .bool g] (key, val, g) :=
  ⟨A, a, B, b, rfl, Bs.fresh h1 n1 (fun i hi => hi.elim (fun h => h.elim) (fun e => h.o.lt e)), Bs.fresh h2 n2 (fun i hi => hi.elim (fun h => h.elim) (fun e => h.o.lt e))⟩
theorem S5.iter (h : S5 w wr v s) {b r n cnt : Nat} {D : DataW Value} {left : Lit → Bool} (hr : wr.ranges Tryz.prog 9 RH b r n D left cnt) (hb : b < w.heap.size) (k : Only wr w1 (fun k => v.ownBlock = some k)) : w1.ranges Tryz.prog 9 RH b r n D left cnt := by
  refine ranges_blk hr (k.block b (Nat.lt_of_lt_of_le hb h.b.size) (fun e => by have := h.o.base_le e; omega)) (k.block r hr.lt (fun e => ?_))
  obtain ⟨cs, hc⟩ := h.o.blk e
  obtain ⟨es, clock, since, seen, c0, a1, a2, a3, a4, a5, a6⟩ := hr
  rw [a5] at hc
  cases hc
theorem ranges_noCell {b r n cnt : Nat} {D : DataW Value} {left : Lit → Bool} (h : w.ranges Tryz.prog 9 RH b r n D left cnt) : NoCell w r := by
  obtain ⟨es, clock, since, seen, c0, a1, a2, a3, a4, a5, a6⟩ := h
  intro j
  simp [World.cell?, a5]
theorem BsN.avoid2 {N : Nat → Prop} {A : Option Addr} {c r : Nat} {l : List UInt8} (h : BsN w N A c l) (hb : NoCell w r) : BsN w (fun i => i = r ∨ N i) A c l :=
  ⟨h.1, fun hl ad e hn => hn.elim (fun hn => ((BsN.avoid (Bs.bsn h.1) hb).2 hl ad e hn)) (fun hn => h.2 hl ad e hn)⟩
theorem S5.next (h : S5 w wr v s) {b r n cnt : Nat} {D : DataW Value} {left : Lit → Bool} (hr : wr.ranges Tryz.prog 9 RH b r n D left cnt) (k : Only wr w1 (fun i => i = r)) (hw : w.heap.size ≤ r) : S5 w w1 v s := by
  refine ⟨?_, below_only h.b k (fun i hi => by omega)⟩
  have hn := ranges_noCell hr
  have hne : ∀ i, v.ownBlock = some i → ¬ i = r := fun i hi e => by
    obtain ⟨cs, hc⟩ := h.o.blk hi
    obtain ⟨es, clock, since, seen, c0, a1, a2, a3, a4, a5, a6⟩ := hr
    rw [e, a5] at hc
    cases hc
  obtain ⟨raws, hl, ho, hm, hR⟩ := h.o
  refine ⟨raws, hl, row_keep ho k hne, hm, fun i x raw hx hw => ?_⟩
  obtain ⟨A1, a1, B1, b1, e1, s1, s2⟩ := hR i x raw hx hw
  have h2 : SetE.R wr (fun i => i = r ∨ (False ∨ v.ownBlock = some i)) raw x := ⟨A1, a1, B1, b1, e1, s1.avoid2 hn, s2.avoid2 hn⟩
  exact SetE.reno (SetE.only h2 k (fun i _ hi => .inl hi)) (fun i hi => .inl (.inr hi))
end
theorem raw_any {was is_ : List RowD} (h1 : (was.map Prod.fst).Nodup) (h2 : (is_.map Prod.fst).Nodup) {ss tt : List (List UInt8)} (hs : ss.Perm (is_.map Prod.fst)) (ht : tt.Perm (was.map Prod.fst)) :
    ((tt.foldl (stepPB is_) (ss.foldl (stepPA was is_) [])).map Prod.fst).Nodup ∧ sortS (tt.foldl (stepPB is_) (ss.foldl (stepPA was is_) [])) = setsOf was is_ := by
  have key : ∀ {l : List RowD} (hn : (l.map Prod.fst).Nodup) {ks : List (List UInt8)}, ks.Perm (l.map Prod.fst) → (ks.map (fun k => (k, valOf l k))).Perm l := fun {l} hn {ks} hk => by
    have h1 := hk.map (fun k => (k, valOf l k))
    have h2 : (l.map Prod.fst).map (fun k => (k, valOf l k)) = l := by
      rw [List.map_map]
      conv => rhs; rw [← List.map_id l]
      apply List.map_congr_left
      intro r hr
      show (r.1, valOf l r.1) = r
      rw [valOf_mem hn hr]
    rwa [h2] at h1
  have hp : (tt.foldl (stepPB is_) (ss.foldl (stepPA was is_) [])).Perm (is_.filterMap (fA was) ++ was.filterMap (fB is_)) := by
    rw [foldPA, foldPB, List.nil_append]
    exact ((key h2 hs).filterMap _).append ((key h1 ht).filterMap _)
  have hn := (hp.map Prod.fst).nodup_iff.2 (all_nodup h1 h2)
  refine ⟨hn, ?_⟩
  rw [setsOf_eq]
  obtain ⟨s1, p1⟩ := fold_ins ltS_asym ltS_tr (is_.filterMap (fA was) ++ was.filterMap (fB is_)) [] List.Pairwise.nil
  rw [List.nil_append] at p1
  have p2 := (sortS_perm _).trans hp
  refine List.Perm.eq_of_pairwise (le := fun a b => ltS b a = false) (fun a b ha hb e1 e2 => ?_) (sortS_sorted _) s1 (p2.trans p1.symm)
  exact one_fst (all_nodup h1 h2) (p2.mem_iff.1 ha) (p1.mem_iff.1 hb) (lessB_total e2 e1)
end Go.Proofs.YtafdhccdjbfepaaGreat.Lst
/- The walk of Sets of changes. -/
namespace Go.Proofs.YtafdhccdjbfepaaGreat.Lst
open Go.RowKit Go.Maps Go.Sort Go.Shelf Go.Proofs.YtafdhccdjbfepaaGreat.K Go.Proofs.YtafdhccdjbfepaaGreat.Help Go.Proofs.YtafdhccdjbfepaaGreat.Pfx Go.Proofs.YtafdhccdjbfepaaGreat.Peer
set_option linter.unusedVariables false

theorem stepPA_eq (was is_ : List RowD) (s : List SetD) (k : List UInt8) : stepPA was is_ s k = if (hasK was k && decide (valOf was k = valOf is_ k)) = true then s else s ++ [(k, valOf is_ k, false)] := rfl
theorem stepPB_eq (is_ : List RowD) (s : List SetD) (k : List UInt8) : stepPB is_ s k = if hasK is_ k = true then s else s ++ [(k, [], true)] := rfl
theorem fold_snoc {α β : Type} (f : β → α → β) (s : β) (ss : List α) (x : α) : (ss ++ [x]).foldl f s = f (ss.foldl f s) x := by simp
theorem nw_far (w : World) (k : Nat) : Nw w (some ⟨w.heap.size + k, 0, none⟩) := fun ad e => by injection e with e; rw [← e]; exact Nat.le_add_right _ _
end Go.Proofs.YtafdhccdjbfepaaGreat.Lst
/- All; what it gives goes to any function. -/
namespace Go.Proofs.YtafdhccdjbfepaaGreat.Lst
open Go.RowKit Go.Maps Go.Sort Go.Shelf Go.Proofs.YtafdhccdjbfepaaGreat.K Go.Proofs.YtafdhccdjbfepaaGreat.Help Go.Proofs.YtafdhccdjbfepaaGreat.Pfx Go.Proofs.YtafdhccdjbfepaaGreat.Peer
set_option linter.unusedVariables false

section
variable {w w' : World} {g b : Nat} {l : List RowD}
end
/-- blocks from lo to hi stand -/
def Stands (w w' : World) (lo hi : Nat) : Prop := w.heap.size ≤ w'.heap.size ∧ ∀ i, lo ≤ i → i < hi → w'.heap[i]? = w.heap[i]?
end Go.Proofs.YtafdhccdjbfepaaGreat.Lst
/- append of one struct to an own list at a step of a region that draws. -/
namespace Go.Proofs.YtafdhccdjbfepaaGreat.Lst
open Go.RowKit Go.Proofs.YtafdhccdjbfepaaGreat.K Go.Proofs.YtafdhccdjbfepaaGreat.Help Go.Proofs.YtafdhccdjbfepaaGreat.Pfx Go.Proofs.YtafdhccdjbfepaaGreat.Peer
set_option linter.unusedVariables false
section
variable {α : Type} {E : Elem α} {P : Program} {ops : Array Oper} {o : Oper} {a : Act} {Q : Exit → Act → World → Prop}
/-- append(v, x) at a step: x laid at block g -/
theorem step_pushE {B : Nat} {W : World} {N : Nat → Prop} {K : Act → World → Prop} {F : Prop} (t ts : TypeId) (z : Value) (bytes : Nat) (hgd : o.guard = none) (s xo : Operand)
    (ho : o.op = .call { callee := .builtin .append, args := #[s, xo], argTypes := #[ts, ts] })
    (ht : P.underlying ts = some (.slice t)) (hinfo : (P.info? t).map (fun i => (i.zero, i.size, i.bytes)) = some (some z, E.sz, bytes)) (hz : z.cells.size = E.sz) (hs0 : 0 < E.sz) (hb1 : 0 < bytes) (hb2 : bytes ≤ 128)
    (v : Value) (l : List α) (x : α) (raw : List Value) (g mc : Nat) (hs : a.eval s = v) (hx : a.eval xo = .slice (some ⟨g, 0, none⟩) 1 mc)
    (HO : OwnL E t W N B v l) (HX : W.heap[g]? = some (.cells raw.toArray t (0, 0))) (hr : E.R W (fun k => N k ∨ v.ownBlock = some k) raw x) (hBW : B ≤ W.heap.size) (hl : l.length ≤ 100000000000)
    (h : ∀ A' c' w1, OwnL E t w1 N B (.slice A' (l.length + 1) c') (l ++ [x]) → Only W w1 (fun k => v.ownBlock = some k) → (∀ k, (Value.slice A' (l.length + 1) c').ownBlock = some k → v.ownBlock = some k ∨ W.heap.size ≤ k) → K (a.put o.dst (.slice A' (l.length + 1) c')) w1)
    (hNn : ∀ k, N k → k < W.heap.size) :
    if Region.wanted o (yielded ops a.tmps) = true then Oper.wp P o a W K Q else F := by
  obtain ⟨raws, hrl, hown, hm, hR⟩ := HO
  obtain ⟨i0, hi, hzz⟩ := Option.map_eq_some_iff.1 hinfo
  simp only [Prod.mk.injEq] at hzz
  obtain ⟨hz0, hz1, hz2⟩ := hzz
  have hraw := E.len hr
  have hbb : (l.length + 1) * bytes ≤ 140737488355328 := Nat.le_trans (Nat.mul_le_mul (show l.length + 1 ≤ 1000000000000 by omega) hb2) (by decide)
  refine step_append_lies W hgd s xo ts ho B t i0 z E.sz bytes ht hi hz0 hz1 hz2 hz hs0 v l.length raws.flatten hs hown ⟨g, 0, none⟩ 1 mc raw hx (by rw [hraw]; omega)
    ?_ (E.one hr) (by decide) (by simp only [maxLen]; omega) hbb hBW _ rfl ?_
  · intro j u hu
    rw [addr_add_plain]
    exact (blk_cell HX j).trans (by simpa using hu)
  · intro g1 cap w1 hown1 hg hat hlt
    have k : Only W w1 (fun k => v.ownBlock = some k) := (Only.refl W (fun k => v.ownBlock = some k)).grown hg (fun k hk => .inl hk)
    have hat2 : ∀ k, (Value.slice (some ⟨g1, 0, none⟩) (l.length + 1) cap).ownBlock = some k → v.ownBlock = some k ∨ W.heap.size ≤ k := fun k hk => by
      have e : g1 = k := by simpa [Value.ownBlock] using hk
      subst e
      rcases hat with hat | hat
      · exact .inl hat
      · exact .inr (by omega)
    generalize hv1 : Value.slice (some ⟨g1, 0, none⟩) (l.length + 1) cap = v1 at *
    have hO : OwnL E t w1 N B v1 (l ++ [x]) := by
      refine ⟨raws ++ [raw], by simp [hrl], ?_, by simp; omega, fun i y r hy hw => ?_⟩
      · rw [List.flatten_append, List.flatten_cons, List.flatten_nil, List.append_nil]; simpa using hown1
      · have hT : E.R W (fun k => N k ∨ v.ownBlock = some k) r y := by
          by_cases hii : i < l.length
          · exact hR i y r (by rw [List.getElem?_append_left hii] at hy; exact hy) (by rw [List.getElem?_append_left (by omega)] at hw; exact hw)
          · have e1 : i = l.length := by
              have := (List.getElem?_eq_some_iff.1 hy).1
              simp at this
              omega
            subst e1
            rw [List.getElem?_append_right (by omega), Nat.sub_self] at hy
            rw [List.getElem?_append_right (by omega), hrl, Nat.sub_self] at hw
            simp only [List.getElem?_cons_zero, Option.some.injEq] at hy hw
            subst hy hw
            exact hr
        have hT2 : E.R W (fun k => (N k ∨ v.ownBlock = some k) ∨ v1.ownBlock = some k) r y := E.reno hT (fun k hk => hk.elim .inl (fun h => (hat2 k h).imp .inr id))
        exact E.reno (E.only hT2 k (fun i _ hi => .inl (.inr hi))) (fun k hk => .inl (hk.elim (fun h => .inl (.inl h)) .inr))
    subst hv1
    exact h _ cap w1 hO k hat2
end
end Go.Proofs.YtafdhccdjbfepaaGreat.Lst
/- rows: what All gives, collected. -/
namespace Go.Proofs.YtafdhccdjbfepaaGreat.Lst
open Go.RowKit Go.Maps Go.Sort Go.Shelf Go.Proofs.YtafdhccdjbfepaaGreat.K Go.Proofs.YtafdhccdjbfepaaGreat.Help Go.Proofs.YtafdhccdjbfepaaGreat.Pfx Go.Proofs.YtafdhccdjbfepaaGreat.Peer
set_option linter.unusedVariables false

theorem OwnL.rowOnly {w w' : World} {t : TypeId} {B g : Nat} {v : Value} {l : List RowD} (h : OwnL RowE t w (fun _ => False) B v l) (k : Only w w' (fun i => i = g)) (hne : ∀ i, v.ownBlock = some i → ¬ i = g) (hno : NoU8 w g) : OwnL RowE t w' (fun _ => False) B v l := by
  obtain ⟨raws, hl, ho, hm, hR⟩ := h
  refine ⟨raws, hl, row_keep ho k hne, hm, fun i x raw hx hw => ?_⟩
  obtain ⟨A1, a1, B1, b1, e1, s1, s2⟩ := hR i x raw hx hw
  exact ⟨A1, a1, B1, b1, e1, ⟨bs_only s1.1 k (fun i hi _ => by rw [hi]; exact hno), s1.2⟩, ⟨bs_only s2.1 k (fun i hi _ => by rw [hi]; exact hno), s2.2⟩⟩
/-- the boxes of rows: the list under way, the number -/
structure RB1 (w : World) (base pl pn : Nat) (n : Int) (v : Value) (u : List RowD) : Prop where
  l : w.heap[pl]? = some (.cells #[v] 26 (0, 0))
  n : w.heap[pn]? = some (.cells #[.int .i64 n] 3 (0, 0))
  o : OwnL RowE 47 w (fun _ => False) base v u
section
variable {w w' : World} {base pl pn : Nat} {n : Int} {v : Value} {u : List RowD}
theorem RB1.keep (h : RB1 w base pl pn n v u) (hb : Below w.heap.size w w') : RB1 w' base pl pn n v u := ⟨(hb.block _ (blk_lt h.l)).trans h.l, (hb.block _ (blk_lt h.n)).trans h.n, h.o.below hb⟩
theorem RB1.ne (h : RB1 w base pl pn n v u) : pl ≠ pn := fun e => blk_ne (e ▸ h.l) h.n (by decide) rfl
theorem RB1.cl (h : RB1 w base pl pn n v u) : w.cell? ⟨pl, 0, none⟩ = some v := (blk_cell h.l 0).trans rfl
theorem RB1.cn (h : RB1 w base pl pn n v u) : w.cell? ⟨pn, 0, none⟩ = some (.int .i64 n) := (blk_cell h.n 0).trans rfl
theorem RB1.far (h : RB1 w base pl pn n v u) : ∀ i, v.ownBlock = some i → ¬ i = pl ∧ ¬ i = pn := fun i hi => by
  obtain ⟨cs, hc⟩ := h.o.blk hi
  exact ⟨fun e => blk_ne (e ▸ hc) h.l (by decide) rfl, fun e => blk_ne (e ▸ hc) h.n (by decide) rfl⟩
end
def RetR1 (W : World) (base pl pn : Nat) (n : Int) (v : Value) (u : List RowD) (e : Ending) (W' : World) : Prop := ∃ v', e = .returned (.bool (decide ((u.length : Int) ≤ n))) ∧ RB1 W' base pl pn n v' u ∧ Only W W' (fun i => i = pl ∨ v.ownBlock = some i) ∧ (∀ i, v'.ownBlock = some i → v.ownBlock = some i ∨ W.heap.size ≤ i)
end Go.Proofs.YtafdhccdjbfepaaGreat.Lst
/- rows. -/
namespace Go.Proofs.YtafdhccdjbfepaaGreat.Lst
open Go.RowKit Go.Proofs.YtafdhccdjbfepaaGreat.K Go.Proofs.YtafdhccdjbfepaaGreat.Help Go.Proofs.YtafdhccdjbfepaaGreat.Pfx Go.Proofs.YtafdhccdjbfepaaGreat.Peer
set_option linter.unusedVariables false

theorem noU8_one {w : World} {p : Nat} {t : TypeId} {v : Value} (h : w.heap[p]? = some (.cells #[v] t (0, 0))) (hv : ∀ b, v ≠ .int .u8 b) : NoU8 w p := by
  intro j y e
  rw [blk_cell h j] at e
  match j with
  | 0 => exact hv y (by simpa using e)
  | j + 1 => simp at e
theorem take_snoc_z (l : List RowD) (k : Nat) (hk : k < l.length) : l.take k ++ [l.getD k zR] = l.take (k + 1) := (take_row l k hk).symm
end Go.Proofs.YtafdhccdjbfepaaGreat.Lst
/- bits.width and Put at uint16 (printed by gen/bits.py). -/
namespace Go.Proofs.YtafdhccdjbfepaaGreat.Bits
open Go.RowKit Go.Proofs.YtafdhccdjbfepaaGreat.K
set_option linter.unusedVariables false
end Go.Proofs.YtafdhccdjbfepaaGreat.Bits
/- PutSets. -/
namespace Go.Proofs.YtafdhccdjbfepaaGreat.Lst
open Go.RowKit Go.Proofs.YtafdhccdjbfepaaGreat.K Go.Proofs.YtafdhccdjbfepaaGreat.Help Go.Proofs.YtafdhccdjbfepaaGreat.Pfx Go.Proofs.YtafdhccdjbfepaaGreat.Peer Go.Proofs.YtafdhccdjbfepaaGreat.Bits
set_option linter.unusedVariables false

/-- a set's bytes -/
def kindB (g : Bool) : Nat := if g = true then 0 else 1
def rowB (s : SetD) : List UInt8 := be 1 (kindB s.2.2) ++ be 1 s.1.length ++ be 2 s.2.1.length ++ s.1 ++ s.2.1
/-- set k may be, and its key rises -/
def okAtS (l : List SetD) (k : Nat) : Bool := mayB (l.getD k zeroSet) && (decide (k = 0) || decide ((l.getD (k - 1) zeroSet).1 < (l.getD k zeroSet).1))
def okS (l : List SetD) (n : Nat) : Bool := decide (∀ k, k < n → okAtS l k = true)
def putSetsD (l : List SetD) : List UInt8 × Int := if okS l l.length = true then (l.flatMap rowB, 0) else ([], 114)
theorem okS_no {l : List SetD} {k n : Nat} (hk : k < n) (h : okAtS l k = false) : okS l n = false := by
  unfold okS
  rw [decide_eq_false_iff_not]
  intro h2
  rw [h2 k hk] at h
  cases h
theorem okS_step {l : List SetD} {k : Nat} (h : okS l k = true) (h2 : okAtS l k = true) : okS l (k + 1) = true := by
  unfold okS at *
  rw [decide_eq_true_eq] at *
  intro j hj
  rcases Nat.lt_or_ge j k with h3 | h3
  · exact h j h3
  · have : j = k := by omega
    subst this; exact h2
theorem mayB_le {s : SetD} (h : mayB s = true) : 1 ≤ s.1.length ∧ s.1.length ≤ 40 ∧ s.2.1.length ≤ 480 := by
  unfold mayB at h
  rw [Bool.and_eq_true] at h
  exact of_decide_eq_true h.2
theorem flat_le {l : List SetD} : ∀ (k : Nat), k ≤ l.length → okS l k = true → ((l.take k).flatMap rowB).length ≤ k * 600
  | 0, _, _ => by simp
  | k + 1, hk, h => by
    have h1 : okS l k = true := by
      unfold okS at *
      rw [decide_eq_true_eq] at *
      exact fun j hj => h j (by omega)
    have h2 : okAtS l k = true := by
      unfold okS at h
      rw [decide_eq_true_eq] at h
      exact h k (by omega)
    have ih := flat_le k (by omega) h1
    unfold okAtS at h2
    rw [Bool.and_eq_true] at h2
    have hm := mayB_le h2.1
    have e : l.getD k zeroSet = l[k] := by simp [show k < l.length by omega]
    rw [e] at hm
    rw [List.take_succ_eq_append_getElem (by omega), List.flatMap_append, List.length_append, List.flatMap_cons, List.flatMap_nil, List.append_nil]
    have : (rowB l[k]).length ≤ 600 := by unfold rowB; simp only [List.length_append, be_len]; omega
    omega
theorem flat_step (l : List SetD) (k : Nat) (hk : k < l.length) : (l.take (k + 1)).flatMap rowB = (l.take k).flatMap rowB ++ rowB (l.getD k zeroSet) := by
  have e : l.getD k zeroSet = l[k] := by simp [hk]
  rw [List.take_succ_eq_append_getElem hk, List.flatMap_append, e]
  simp
section
variable {ops : Array Oper} {rest : List Oper} {o : Oper} {a : Act} {Q : Exit → Act → World → Prop}
theorem run_app_nil (w : World) (base : Nat) (ty : TypeId) (v : Value) (l : List UInt8) (h : Own w base v l) (c : Nat) : (Builtin.append_ #[33, 33] ty #[v, .slice none 0 c]).run Tryz.prog w = .ok v w := by
  obtain ⟨i0, hi, hzz⟩ := Option.map_eq_some_iff.1 info_u8
  rcases h.1.2 with ⟨rfl, _⟩ | ⟨g, cap, cur, rfl, _, _, hnc, _⟩
  · simp [Builtin.append_, run_underlying u_slice8, sizeOf, typeInfo, hi, Builtin.lenOf, Builtin.firstCells]
  · simp [Builtin.append_, run_underlying u_slice8, sizeOf, typeInfo, hi, Builtin.lenOf, Builtin.firstCells, hnc, storeCells]
/-- append(v, m...), whatever m -/
theorem push_any {B : Nat} {W : World} (hgd : o.guard = none) (s x : Operand)
    (ho : o.op = .call { callee := .builtin .append, args := #[s, x], argTypes := #[33, 33] })
    (v : Value) (l m : List UInt8) (A : Option Addr) (mc : Nat) (hs : a.eval s = v) (hx : a.eval x = .slice A m.length mc)
    (HO : Own W B v l) (HM : Bs W A mc m) (hBW : B ≤ W.heap.size) (hl : l.length + m.length ≤ 140737488355328)
    (h : ∀ A' c' w1, Own w1 B (.slice A' (l ++ m).length c') (l ++ m) → Only W w1 (fun k => v.ownBlock = some k) → wpList Tryz.prog ops Q rest (a.put o.dst (.slice A' (l ++ m).length c')) w1) :
    wpList Tryz.prog ops Q (o :: rest) a W := by
  rcases A with _ | ad
  · have h0 : m = [] := by
      rcases m with _ | ⟨y, r⟩
      · rfl
      · obtain ⟨ad, h', _⟩ := HM.at_ 0 (by simp)
        cases h'
    subst h0
    rw [List.append_nil] at h
    obtain ⟨A', c', rfl, _⟩ := HO.bs
    have hrun := run_app_nil W B o.type _ l HO mc
    refine wpList_plain hgd fun K hK => ?_
    unfold Oper.wp
    simp [execOp, ho, resolve, invoke, builtin, hs, hx, hrun, Result.andThen]
    exact hK _ _ (h A' c' W HO (Only.refl _ _))
  · exact push_at hgd s x ho v l m ad mc hs hx HO HM hBW hl h
end
def RetPS (w : World) (r : List UInt8 × Int) (e : Ending) (w' : World) : Prop := ∃ B d, e = .returned (.tuple #[.slice B r.1.length d, .int .i64 r.2]) ∧ Bs w' B d r.1 ∧ Below w.heap.size w w' ∧ Nw w B
end Go.Proofs.YtafdhccdjbfepaaGreat.Lst
/- The walk of PutSets. -/
namespace Go.Proofs.YtafdhccdjbfepaaGreat.Lst
open Go.RowKit Go.Proofs.YtafdhccdjbfepaaGreat.K Go.Proofs.YtafdhccdjbfepaaGreat.Help Go.Proofs.YtafdhccdjbfepaaGreat.Pfx Go.Proofs.YtafdhccdjbfepaaGreat.Peer Go.Proofs.YtafdhccdjbfepaaGreat.Bits
set_option linter.unusedVariables false

theorem bs_own {w w' : World} {H : Nat} {T : Nat → Prop} {A : Option Addr} {c : Nat} {l : List UInt8} (h : Bs w A c l) {W1 : World} (h1 : Bs W1 A c l) (hH : W1.heap.size ≤ H) (k : Only w w' T) (hT : ∀ i, T i → H ≤ i) : Bs w' A c l :=
  (BsN.only (N := fun i => H ≤ i) ⟨h, fun hl ad e hn => by have := Bs.blk h1 hl ad e; omega⟩ k (fun i _ ht => hT i ht)).1
def RowB1 (l : List SetD) (k : Nat) (xk xv : List UInt8) (xg : Bool) : Prop := (l.take (k + 1)).flatMap rowB = (((((l.take k).flatMap rowB ++ be 1 (kindB xg)) ++ be 1 xk.length) ++ be 2 xv.length) ++ xk) ++ xv
theorem list_str (l : List UInt8) : (⟨l.toArray⟩ : ByteArray).toList = l := by simp
end Go.Proofs.YtafdhccdjbfepaaGreat.Lst
/- set and gone of the law; lists laid by hand. -/
namespace Go.Proofs.YtafdhccdjbfepaaGreat.Lst
open Go.RowKit Go.Proofs.YtafdhccdjbfepaaGreat.K Go.Proofs.YtafdhccdjbfepaaGreat.Help Go.Proofs.YtafdhccdjbfepaaGreat.Pfx Go.Proofs.YtafdhccdjbfepaaGreat.Peer
set_option linter.unusedVariables false

theorem lst_of_block {α : Type} {E : Elem α} {w : World} {g : Nat} {t : TypeId} {fr : Nat × Nat} {raws : List (List Value)} {l : List α} (hb : w.heap[g]? = some (.cells raws.flatten.toArray t fr)) (hl : raws.length = l.length) (hm : l.length ≤ 1000000)
    (hR : ∀ (i : Nat) (x : α) (raw : List Value), l[i]? = some x → raws[i]? = some raw → E.R w (fun _ => False) raw x) : Lst E w (fun _ => False) (some ⟨g, 0, none⟩) l.length l := by
  refine ⟨Nat.le_refl _, by omega, fun i x hx => ?_⟩
  have hi : i < raws.length := by rw [hl]; exact (List.getElem?_eq_some_iff.1 hx).1
  have hr := hR i x raws[i] hx (List.getElem?_eq_getElem hi)
  have hsz : ∀ r, r ∈ raws → r.length = E.sz := fun r hr => by
    obtain ⟨j, hj, rfl⟩ := List.mem_iff_getElem.1 hr
    exact E.len (hR j (l[j]'(by omega)) raws[j] (List.getElem?_eq_getElem _) (List.getElem?_eq_getElem hj))
  refine ⟨g, 0, raws[i], rfl, blk_lt hb, fun h => h, fun j hj => ?_, hr⟩
  rw [blk_cell hb, Nat.zero_add, List.getElem?_toArray]
  exact flat_at hsz i j raws[i] (List.getElem?_eq_getElem hi) hj
def RetSet (w : World) (s : SetD) (e : Ending) (w' : World) : Prop := ∃ A a B b, e = .returned (.agg #[.slice A s.1.length a, .slice B s.2.1.length b, .bool s.2.2]) ∧ Bs w' A a s.1 ∧ Bs w' B b s.2.1 ∧ Below w.heap.size w w'
end Go.Proofs.YtafdhccdjbfepaaGreat.Lst
/- SameRows; num. -/
namespace Go.Proofs.YtafdhccdjbfepaaGreat.Lst
open Go.RowKit Go.Proofs.YtafdhccdjbfepaaGreat.K Go.Proofs.YtafdhccdjbfepaaGreat.Help Go.Proofs.YtafdhccdjbfepaaGreat.Pfx Go.Proofs.YtafdhccdjbfepaaGreat.Peer
set_option linter.unusedVariables false

theorem eq_getD {l m : List RowD} (hn : l.length = m.length) : l = m ↔ ∀ i, i < l.length → l.getD i zR = m.getD i zR := by
  constructor
  · rintro rfl i _; rfl
  · intro h
    apply List.ext_getElem hn
    intro i h1 h2
    have := h i h1
    simpa [h1, h2] using this
theorem row_eq (x y : RowD) : (decide (x.1 = y.1) && decide (x.2 = y.2)) = decide (x = y) := by
  rw [Bool.eq_iff_iff, Bool.and_eq_true, decide_eq_true_eq, decide_eq_true_eq, decide_eq_true_eq]
  exact ⟨fun h => Prod.ext h.1 h.2, fun h => by rw [h]; exact ⟨rfl, rfl⟩⟩
end Go.Proofs.YtafdhccdjbfepaaGreat.Lst
/- The document's May. -/
namespace Go.Proofs.YtafdhccdjbfepaaGreat.Lst
open Go.RowKit Go.Proofs.YtafdhccdjbfepaaGreat.K Go.Proofs.YtafdhccdjbfepaaGreat.Help Go.Proofs.YtafdhccdjbfepaaGreat.Pfx Go.Proofs.YtafdhccdjbfepaaGreat.Peer
set_option linter.unusedVariables false

end Go.Proofs.YtafdhccdjbfepaaGreat.Lst
/- short; the document's May. -/
namespace Go.Proofs.YtafdhccdjbfepaaGreat.Lst
open Go.RowKit Go.Proofs.YtafdhccdjbfepaaGreat.K Go.Proofs.YtafdhccdjbfepaaGreat.Help Go.Proofs.YtafdhccdjbfepaaGreat.Pfx Go.Proofs.YtafdhccdjbfepaaGreat.Peer
set_option linter.unusedVariables false

def shortAt (l : List SetD) (k : Nat) : Prop := (l.getD k zeroSet).1.length ≤ 2000 ∧ (l.getD k zeroSet).2.1.length ≤ 2000
instance (l : List SetD) (k : Nat) : Decidable (shortAt l k) := inferInstanceAs (Decidable (_ ∧ _))
def shortB (l : List SetD) : Bool := decide (l.length ≤ 2000) && decide (∀ k, k < l.length → shortAt l k)
end Go.Proofs.YtafdhccdjbfepaaGreat.Lst
/- The document's number. -/
namespace Go.Proofs.YtafdhccdjbfepaaGreat.Lst
open Go.RowKit Go.Proofs.YtafdhccdjbfepaaGreat.K Go.Proofs.YtafdhccdjbfepaaGreat.Help Go.Proofs.YtafdhccdjbfepaaGreat.Pfx Go.Proofs.YtafdhccdjbfepaaGreat.Peer
set_option linter.unusedVariables false

/-- an append's answer: the list is longer, all of a base on is new -/
def RetA2 (B : Nat) (W0 w : World) (l : List UInt8) (e : Ending) (w' : World) : Prop := ∃ A c, e = .returned (.slice A l.length c) ∧ Own w' B (.slice A l.length c) l ∧ Below B W0 w'
end Go.Proofs.YtafdhccdjbfepaaGreat.Lst
/- The document's row. -/
namespace Go.Proofs.YtafdhccdjbfepaaGreat.Lst
open Go.RowKit Go.Proofs.YtafdhccdjbfepaaGreat.K Go.Proofs.YtafdhccdjbfepaaGreat.Help Go.Proofs.YtafdhccdjbfepaaGreat.Pfx Go.Proofs.YtafdhccdjbfepaaGreat.Peer
set_option linter.unusedVariables false

end Go.Proofs.YtafdhccdjbfepaaGreat.Lst
/- The document's PutSets. -/
namespace Go.Proofs.YtafdhccdjbfepaaGreat.Lst
open Go.RowKit Go.Proofs.YtafdhccdjbfepaaGreat.K Go.Proofs.YtafdhccdjbfepaaGreat.Help Go.Proofs.YtafdhccdjbfepaaGreat.Pfx Go.Proofs.YtafdhccdjbfepaaGreat.Peer
set_option linter.unusedVariables false

theorem lessB_dec (k m : List UInt8) : lessB k m = decide (k < m) := by
  rw [Bool.eq_iff_iff, lessB_iff, decide_eq_true_eq]
end Go.Proofs.YtafdhccdjbfepaaGreat.Lst
/- first of the laws, its calls up to the first Apply. -/
namespace Go.Proofs.YtafdhccdjbfepaaGreat.Lst
open Go.RowKit Go.Proofs.YtafdhccdjbfepaaGreat.K Go.Proofs.YtafdhccdjbfepaaGreat.Help Go.Proofs.YtafdhccdjbfepaaGreat.Pfx Go.Proofs.YtafdhccdjbfepaaGreat.Peer
set_option linter.unusedVariables false

def lst5 : List SetD := [([98], [50], false), ([97], [48], false), ([97, 98], [], false), ([97], [49], false), ([122], [], true)]
def lst2 : List SetD := [([99], [51], false), ([], [120], false)]
def rows3 : List RowD := [([97], [49]), ([97, 98], []), ([98], [50])]
example : lst5.all mayB = true := by decide
theorem app5 : appL [] lst5 = rows3 := by decide
theorem may5 : lst5.all mayB = true := by decide
theorem may2 : lst2.all mayB = false := by decide
def sg (A B : Option Addr) (a b : Nat) (s : SetD) : List Value := [.slice A s.1.length a, .slice B s.2.1.length b, .bool s.2.2]
theorem sg_R {w : World} {A B : Option Addr} {a b : Nat} {s : SetD} (h1 : Bs w A a s.1) (h2 : Bs w B b s.2.1) : SetE.R w (fun _ => False) (sg A B a b s) s := ⟨A, a, B, b, rfl, Bs.bsn h1, Bs.bsn h2⟩
/-- five sets laid in a block -/
theorem lay5 {w : World} {g : Nat} {t : TypeId} {fr : Nat × Nat} {s1 s2 s3 s4 s5 : SetD} {r1 r2 r3 r4 r5 : List Value} (hb : w.heap[g]? = some (.cells (r1 ++ r2 ++ r3 ++ r4 ++ r5).toArray t fr))
    (h1 : SetE.R w (fun _ => False) r1 s1) (h2 : SetE.R w (fun _ => False) r2 s2) (h3 : SetE.R w (fun _ => False) r3 s3) (h4 : SetE.R w (fun _ => False) r4 s4) (h5 : SetE.R w (fun _ => False) r5 s5) :
    Lst SetE w (fun _ => False) (some ⟨g, 0, none⟩) 5 [s1, s2, s3, s4, s5] := by
  refine lst_of_block (E := SetE) (l := [s1, s2, s3, s4, s5]) (raws := [r1, r2, r3, r4, r5]) (t := t) (fr := fr) (by rw [hb]; simp) rfl (by simp) ?_
  intro i x raw hx hr
  match i with
  | 0 => simp at hx hr; subst hx hr; exact h1
  | 1 => simp at hx hr; subst hx hr; exact h2
  | 2 => simp at hx hr; subst hx hr; exact h3
  | 3 => simp at hx hr; subst hx hr; exact h4
  | 4 => simp at hx hr; subst hx hr; exact h5
  | i + 5 => simp at hx
theorem lay2 {w : World} {g : Nat} {t : TypeId} {fr : Nat × Nat} {s1 s2 : SetD} {r1 r2 : List Value} (hb : w.heap[g]? = some (.cells (r1 ++ r2).toArray t fr))
    (h1 : SetE.R w (fun _ => False) r1 s1) (h2 : SetE.R w (fun _ => False) r2 s2) :
    Lst SetE w (fun _ => False) (some ⟨g, 0, none⟩) 2 [s1, s2] := by
  refine lst_of_block (E := SetE) (l := [s1, s2]) (raws := [r1, r2]) (t := t) (fr := fr) (by rw [hb]; simp) rfl (by simp) ?_
  intro i x raw hx hr
  match i with
  | 0 => simp at hx hr; subst hx hr; exact h1
  | 1 => simp at hx hr; subst hx hr; exact h2
  | i + 2 => simp at hx
end Go.Proofs.YtafdhccdjbfepaaGreat.Lst
/- Literals laid in memory. -/
namespace Go.Proofs.YtafdhccdjbfepaaGreat.Lst
open Go.RowKit Go.Proofs.YtafdhccdjbfepaaGreat.K Go.Proofs.YtafdhccdjbfepaaGreat.Help Go.Proofs.YtafdhccdjbfepaaGreat.Pfx Go.Proofs.YtafdhccdjbfepaaGreat.Peer
set_option linter.unusedVariables false

theorem conv8 (C : Array Value) (n c g : Nat) (w : World) (hg : g = w.heap.size) : (convert 33 33 (.slice (some ⟨g, 0, none⟩) n c)).run Tryz.prog (w.alloc (.cells C 5)) = .ok (.slice (some ⟨g, 0, none⟩) n c) (w.alloc (.cells C 5 (C.size, C.size + 1))) :=
  Go.Joins.run_convert_bytes_const_at (P := Tryz.prog) w 33 5 C n c g hg u_slice8 u_u8
def ob (l : List UInt8) : Obj := .cells (u8s l).toArray 5 (l.length, l.length + 1)
theorem ob_bs {w W : World} {g : Nat} (l : List UInt8) (hl : l.length ≤ 1000) (hb : W.heap[g]? = some (ob l)) : Bs W (some ⟨g, 0, none⟩) l.length l := by
  refine ⟨Nat.le_refl _, by omega, fun i hi => ⟨_, rfl, blk_lt hb, ?_⟩⟩
  unfold ob at hb
  rw [addr_add_plain, blk_cell hb]
  simp [u8s, u8, hi]
theorem blk_at (w : World) (o : Obj) : (w.alloc o).heap[w.heap.size]? = some o := blk_new w o
theorem want2 {w W1 W2 W3 W4 W5 : World} (e1 : W1 = w.alloc (ob [97])) (e2 : W2 = W1.alloc (ob [49])) (e3 : W3 = W2.alloc (ob [97, 98])) (e4 : W4 = W3.alloc (ob [98])) (e5 : W5 = W4.alloc (ob [50])) (U : World)
    (eU : U = W5.alloc (.cells #[.slice (some ⟨w.heap.size, 0, none⟩) 1 1, .slice (some ⟨W1.heap.size, 0, none⟩) 1 1, .slice (some ⟨W2.heap.size, 0, none⟩) 2 2, .slice none 0 0, .slice (some ⟨W3.heap.size, 0, none⟩) 1 1, .slice (some ⟨W4.heap.size, 0, none⟩) 1 1] 47)) :
    Lst RowE U (fun _ => False) (some ⟨W5.heap.size, 0, none⟩) 3 rows3 ∧ Below w.heap.size w U := by
  have h0 : U.heap[w.heap.size]? = some (ob [97]) := by subst eU e5 e4 e3 e2 e1; exact blk_alloc (blk_alloc (blk_alloc (blk_alloc (blk_alloc (blk_at _ _) _) _) _) _) _
  have h1 : U.heap[W1.heap.size]? = some (ob [49]) := by subst eU e5 e4 e3 e2; exact blk_alloc (blk_alloc (blk_alloc (blk_alloc (blk_at _ _) _) _) _) _
  have h2 : U.heap[W2.heap.size]? = some (ob [97, 98]) := by subst eU e5 e4 e3; exact blk_alloc (blk_alloc (blk_alloc (blk_at _ _) _) _) _
  have h3 : U.heap[W3.heap.size]? = some (ob [98]) := by subst eU e5 e4; exact blk_alloc (blk_alloc (blk_at _ _) _) _
  have h4 : U.heap[W4.heap.size]? = some (ob [50]) := by subst eU e5; exact blk_alloc (blk_at _ _) _
  have h5 := blk_at W5 (.cells #[.slice (some ⟨w.heap.size, 0, none⟩) 1 1, .slice (some ⟨W1.heap.size, 0, none⟩) 1 1, .slice (some ⟨W2.heap.size, 0, none⟩) 2 2, .slice none 0 0, .slice (some ⟨W3.heap.size, 0, none⟩) 1 1, .slice (some ⟨W4.heap.size, 0, none⟩) 1 1] 47)
  rw [← eU] at h5
  have s0 := ob_bs (w := w) [97] (by decide) h0
  have s1 := ob_bs (w := w) [49] (by decide) h1
  have s2 := ob_bs (w := w) [97, 98] (by decide) h2
  have s3 := ob_bs (w := w) [98] (by decide) h3
  have s4 := ob_bs (w := w) [50] (by decide) h4
  constructor
  · refine lst_of_block (E := RowE) (l := rows3) (raws := [[.slice (some ⟨w.heap.size, 0, none⟩) 1 1, .slice (some ⟨W1.heap.size, 0, none⟩) 1 1], [.slice (some ⟨W2.heap.size, 0, none⟩) 2 2, .slice none 0 0], [.slice (some ⟨W3.heap.size, 0, none⟩) 1 1, .slice (some ⟨W4.heap.size, 0, none⟩) 1 1]]) (t := 47) (fr := (0, 0)) h5 rfl (by decide) ?_
    intro i x raw hx hr
    match i with
    | 0 => simp [rows3] at hx hr; subst hx hr; exact ⟨_, _, _, _, rfl, Bs.bsn s0, Bs.bsn s1⟩
    | 1 => simp [rows3] at hx hr; subst hx hr; exact ⟨_, _, _, _, rfl, Bs.bsn s2, Bs.bsn (Bs.nil _ _ _)⟩
    | 2 => simp [rows3] at hx hr; subst hx hr; exact ⟨_, _, _, _, rfl, Bs.bsn s3, Bs.bsn s4⟩
    | i + 3 => simp [rows3] at hx
  · subst eU e5 e4 e3 e2 e1
    exact below_alloc (below_alloc (below_alloc (below_alloc (below_alloc (below_alloc (Below.refl _ _) _) _) _) _) _) _
def rowsD : List RowD := [([97, 98], []), ([98], [50])]
def rowsS : List RowD := [([97, 98], []), ([98], [50]), ([99], [51])]
def lstS : List SetD := [([97], [], true), ([99], [51], false)]
theorem del1 : delR rows3 [97] = rowsD := by decide
theorem del2 : delR rowsD [97] = rowsD := by decide
theorem has1 : hasK rows3 [97] = true := by decide
theorem has2 : hasK rowsD [97] = false := by decide
theorem set1 : setR rowsD [99] [51] = rowsS := by decide
theorem may1 : mayB ([99], [51], false) = true := by decide
theorem setsF : setsOf rows3 rowsS = lstS := by decide
theorem putF : putSetsD lstS = ([0, 1, 0, 0, 97, 1, 1, 0, 1, 99, 51], 0) := by decide
end Go.Proofs.YtafdhccdjbfepaaGreat.Lst
/- The walk of first. -/
namespace Go.Proofs.YtafdhccdjbfepaaGreat.Lst
open Go.RowKit Go.Proofs.YtafdhccdjbfepaaGreat.K Go.Proofs.YtafdhccdjbfepaaGreat.Help Go.Proofs.YtafdhccdjbfepaaGreat.Pfx Go.Proofs.YtafdhccdjbfepaaGreat.Peer
set_option linter.unusedVariables false

end Go.Proofs.YtafdhccdjbfepaaGreat.Lst
/- Bytes in a block of the call's own: read and written over. -/
namespace Go.Proofs.YtafdhccdjbfepaaGreat.Lst
open Go.RowKit Go.Proofs.YtafdhccdjbfepaaGreat.K Go.Proofs.YtafdhccdjbfepaaGreat.Help Go.Proofs.YtafdhccdjbfepaaGreat.Pfx Go.Proofs.YtafdhccdjbfepaaGreat.Peer
set_option linter.unusedVariables false

/-- block g holds these bytes from its start on, whatever lies behind them -/
def Byt (w : World) (g : Nat) (L : List UInt8) : Prop := ∃ cs : Array Value, w.heap[g]? = some (.cells cs 5 (0, 0)) ∧ ∀ j, j < L.length → cs[j]? = some (.int .u8 ((L.getD j 0).toNat : Int))
section
variable {w w' : World} {g : Nat} {L : List UInt8}
theorem Byt.lt (h : Byt w g L) : g < w.heap.size := by obtain ⟨cs, h, _⟩ := h; exact blk_lt h
theorem Byt.cell (h : Byt w g L) (j : Nat) (hj : j < L.length) : w.cell? ⟨g, j, none⟩ = some (.int .u8 ((L.getD j 0).toNat : Int)) := by
  obtain ⟨cs, h, h2⟩ := h
  rw [blk_cell h]; exact h2 j hj
theorem Byt.free (h : Byt w g L) (j : Nat) : w.frozen? ⟨g, j, none⟩ = false := by obtain ⟨cs, h, _⟩ := h; exact blk_free h j
theorem Byt.set (h : Byt w g L) (j : Nat) (x : UInt8) : Byt (w.setCell ⟨g, j, none⟩ (.int .u8 (x.toNat : Int))) g (L.set j x) := by
  obtain ⟨cs, h, h2⟩ := h
  refine ⟨_, blk_set h j _, fun i hi => ?_⟩
  rw [List.length_set] at hi
  have h3 := h2 i hi
  have hc : i < cs.size := by
    rcases Nat.lt_or_ge i cs.size with h | h
    · exact h
    · rw [Array.getElem?_eq_none h] at h3; cases h3
  rw [Array.getElem?_setIfInBounds]
  by_cases e : j = i
  · subst e
    simp [hc, hi]
  · rw [if_neg e, h3]
    simp [e]
theorem Byt.only {T : Nat → Prop} (h : Byt w g L) (k : Only w w' T) (hn : ¬ T g) : Byt w' g L := by
  obtain ⟨cs, h, h2⟩ := h
  exact ⟨cs, k.blk h hn, h2⟩
theorem Byt.keep (h : Byt w g L) (hb : Below w.heap.size w w') : Byt w' g L := by
  obtain ⟨cs, h, h2⟩ := h
  exact ⟨cs, (hb.block g (blk_lt h)).trans h, h2⟩
theorem Byt.bs (h : Byt w g L) (n c : Nat) (hn : n ≤ L.length) (hc : n ≤ c) (hm : n ≤ 140737488355328) : Bs w (some ⟨g, 0, none⟩) c (L.take n) := by
  have hl : (L.take n).length = n := by rw [List.length_take]; omega
  refine ⟨by omega, by omega, fun i hi => ⟨_, rfl, h.lt, ?_⟩⟩
  rw [hl] at hi
  rw [addr_add_plain, h.cell i (by omega)]
  simp [hi]
end
end Go.Proofs.YtafdhccdjbfepaaGreat.Lst
/- The walk of marked. -/
namespace Go.Proofs.YtafdhccdjbfepaaGreat.Lst
open Go.RowKit Go.Proofs.YtafdhccdjbfepaaGreat.K Go.Proofs.YtafdhccdjbfepaaGreat.Help Go.Proofs.YtafdhccdjbfepaaGreat.Pfx Go.Proofs.YtafdhccdjbfepaaGreat.Peer
set_option linter.unusedVariables false

theorem over_step (L : List UInt8) (i n : Nat) (hi : i < n) (hn : n = L.length) : (List.replicate i 35 ++ L.drop i).set i 35 = List.replicate (i + 1) 35 ++ L.drop (i + 1) := by
  have h : L.drop i = L[i] :: L.drop (i + 1) := List.drop_eq_getElem_cons (by omega)
  rw [List.set_append_right _ _ (by simp), List.length_replicate, Nat.sub_self, h, List.set_cons_zero, List.replicate_succ', List.append_assoc]
  rfl
def markB (L was : List UInt8) (x y : UInt8) : Bool := decide (L.take was.length = was) && (decide (L.getD was.length 0 = x) && decide (L.getD (was.length + 1) 0 = y))
def RetMk (w : World) (g : Nat) (L : List UInt8) (r : Bool) (e : Ending) (w' : World) : Prop := e = .returned (.bool r) ∧ Byt w' g (List.replicate L.length 35) ∧ Only w w' (fun i => i = g)
end Go.Proofs.YtafdhccdjbfepaaGreat.Lst
/- SameSets of any two lists. -/
namespace Go.Proofs.YtafdhccdjbfepaaGreat.Lst
open Go.RowKit Go.Proofs.YtafdhccdjbfepaaGreat.K Go.Proofs.YtafdhccdjbfepaaGreat.Help Go.Proofs.YtafdhccdjbfepaaGreat.Pfx Go.Proofs.YtafdhccdjbfepaaGreat.Peer
set_option linter.unusedVariables false

theorem eq_getDS {l m : List SetD} (hn : l.length = m.length) : l = m ↔ ∀ i, i < l.length → l.getD i zeroSet = m.getD i zeroSet := by
  constructor
  · rintro rfl i _; rfl
  · intro h
    apply List.ext_getElem hn
    intro i h1 h2
    have := h i h1
    simpa [h1, h2] using this
set_option maxRecDepth 100000 in
set_option maxHeartbeats 2000000 in
theorem sameSets_gen (A B : Option Addr) (a b : Nat) (l m : List SetD) (w : World) (hp : Lst SetE w (fun _ => False) A a l) (hq : Lst SetE w (fun _ => False) B b m) :
    Calls Tryz.prog 32 #[.slice A l.length a, .slice B m.length b] w (Pure w (.bool (decide (l = m)))) := by
  have HP := Lib.hid hp
  have HQ := Lib.hid hq
  have h1 := hp.le
  have h2 := hp.max
  have h3 := hq.le
  have h4 := hq.max
  clear hp hq
  generalize hr : decide (l = m) = res
  have HR := Lib.hid hr
  clear hr
  by_cases hlm : l.length = m.length
  · have HEQ := Lib.hid (eq_getDS hlm)
    rw [← hlm] at h3 ⊢
    generalize hn : l.length = n at *
    have HN := Lib.hid hn
    have HM := Lib.hid hlm.symm
    clear hn hlm
    go_enter Tryz.func32, Tryz.ntmps32
    go_wp2_with fail
    go_loopg [5] n (fun gk i wr => ∃ p : Nat, p ≤ n ∧ gk = n - p ∧ i = .int .i64 (p : Int) ∧ Hid (∀ i, i < p → l.getD i zeroSet = m.getD i zeroSet) ∧ Below w.heap.size w wr)
    case atStart => exact ⟨0, by omega, rfl, rfl, fun i h => by omega, Below.refl _ _⟩
    case round =>
      obtain ⟨p, hp, rfl, rfl, HI, hb⟩ := hrel
      have HW := Lib.hid hb
      have HG0 := Lib.hid (Since.drew hb)
      clear hb
      by_cases hlt : p < n
      · have i1 : (p : Int) < (n : Int) := by omega
        have i0 : (0 : Int) ≤ (p : Int) := by omega
        obtain ⟨bk, off, A1, a1, B1, b1, rfl, hbk, c0, c1, c2, s1, s2⟩ := HP.out.set p _ (getD_get zeroSet (by rw [HN.out]; exact hlt))
        obtain ⟨ck, cff, A2, a2, B2, b2, rfl, hck, d0, d1, d2, u1, u2⟩ := HQ.out.set p _ (getD_get zeroSet (by rw [HM.out]; exact hlt))
        have y0 := Since.cell c0 hbk
        have z0 := Since.cell d0 hck
        have Y1 := Lib.hid (Since.cell c1 hbk)
        have Z1 := Lib.hid (Since.cell d1 hck)
        have Y2 := Lib.hid (Since.cell c2 hbk)
        have Z2 := Lib.hid (Since.cell d2 hck)
        have V1 := Lib.hid (Since.bytes s1.1 u1.1)
        have V2 := Lib.hid (Since.bytes s2.1 u2.1)
        have HT : Hid (decide ((l.getD p zeroSet).1 = (m.getD p zeroSet).1) = true → decide ((l.getD p zeroSet).2.1 = (m.getD p zeroSet).2.1) = true → (l.getD p zeroSet).2.2 = (m.getD p zeroSet).2.2 → ∀ i, i < p + 1 → l.getD i zeroSet = m.getD i zeroSet) := Lib.hid (fun h1 h2 h3 i hi => by
          rcases Nat.lt_or_ge i p with h | h
          · exact HI.out i h
          · have : i = p := by omega
            subst this
            exact Prod.ext (of_decide_eq_true h1) (Prod.ext (of_decide_eq_true h2) h3))
        have HF : Hid (decide ((l.getD p zeroSet).1 = (m.getD p zeroSet).1) = false ∨ decide ((l.getD p zeroSet).2.1 = (m.getD p zeroSet).2.1) = false ∨ (l.getD p zeroSet).2.2 ≠ (m.getD p zeroSet).2.2 → res = false) := Lib.hid (fun hf => by
          rw [← HR.out]
          exact decide_eq_false (fun h => by rw [h] at hf; simp at hf))
        clear c0 c1 c2 d0 d1 d2 s1 s2 u1 u2 hbk hck
        generalize decide ((l.getD p zeroSet).1 = (m.getD p zeroSet).1) = t1 at *
        generalize decide ((l.getD p zeroSet).2.1 = (m.getD p zeroSet).2.1) = t2 at *
        generalize (l.getD p zeroSet).1.length = q1 at *
        generalize (l.getD p zeroSet).2.1.length = q2 at *
        generalize (m.getD p zeroSet).1.length = q5 at *
        generalize (m.getD p zeroSet).2.1.length = q6 at *
        generalize (l.getD p zeroSet).2.2 = q3 at *
        generalize (m.getD p zeroSet).2.2 = q4 at *
        go_wp2_with fail
        refine wp_region_quiet_cls (Since w) (by kernel_rfl) (by kernel_rfl) HG0.out ?_
        repeat (go_big_quiet_step ((go_at_call 34; exact calls_cls Since.step (V1.out _))))
        refine wpQuiet_nil ?_
        intro _ hw'
        obtain ⟨nq, hw''⟩ := hw'
        subst hw''
        have HG1 := Lib.hid (Since.drew (w := w) (W := nq.W) nq.ok)
        have y1 := Y1.out
        have z1 := Z1.out
        clear y0 z0
        go_wp2_with fail
        refine wp_region_quiet_cls (Since w) (by kernel_rfl) (by kernel_rfl) HG1.out ?_
        repeat (go_big_quiet_step ((go_at_call 34; exact calls_cls Since.step (V2.out _))))
        refine wpQuiet_nil ?_
        intro _ hw'
        obtain ⟨nq2, hw''⟩ := hw'
        subst hw''
        have HG2 := Lib.hid (Since.drew (w := w) (W := nq2.W) nq2.ok)
        have y2 := Y2.out
        have z2 := Z2.out
        clear y1 z1
        have key : (t1 = false ∧ Hid (res = false)) ∨ (t1 = true ∧ t2 = false ∧ Hid (res = false)) ∨ (t1 = true ∧ t2 = true ∧ q3 = true ∧ q4 = false ∧ Hid (res = false)) ∨ (t1 = true ∧ t2 = true ∧ q3 = false ∧ q4 = true ∧ Hid (res = false)) ∨ (t1 = true ∧ t2 = true ∧ q3 = q4) := by
          cases t1
          · exact .inl ⟨rfl, HF.out (by simp)⟩
          · cases t2
            · exact .inr (.inl ⟨rfl, rfl, HF.out (by simp)⟩)
            · cases q3 <;> cases q4
              · exact .inr (.inr (.inr (.inr ⟨rfl, rfl, rfl⟩)))
              · exact .inr (.inr (.inr (.inl ⟨rfl, rfl, rfl, rfl, HF.out (by simp)⟩)))
              · exact .inr (.inr (.inl ⟨rfl, rfl, rfl, rfl, HF.out (by simp)⟩))
              · exact .inr (.inr (.inr (.inr ⟨rfl, rfl, rfl⟩)))
        rcases key with ⟨rfl, HE⟩ | ⟨rfl, rfl, HE⟩ | ⟨rfl, rfl, rfl, rfl, HE⟩ | ⟨rfl, rfl, rfl, rfl, HE⟩ | ⟨rfl, rfl, rfl⟩
        rotate_right
        · have HT2 : Hid (∀ i, i < p + 1 → l.getD i zeroSet = m.getD i zeroSet) := Lib.hid (HT.out (by first | rfl | trivial) (by first | rfl | trivial) (by first | rfl | trivial))
          have e3 : (q3 != q3) = false := by simp
          clear HT HF
          go_wp2_with fail
          refine wp_region_quiet_cls (Since w) (by kernel_rfl) (by kernel_rfl) HG2.out ?_
          repeat (go_big_quiet_step (fail))
          refine wpQuiet_nil ?_
          intro _ hw'
          obtain ⟨nq3, hw''⟩ := hw'
          subst hw''
          have Q3 := Lib.hid (show Below w.heap.size w nq3.W from nq3.ok)
          go_wp2_with fail
          go_roundg (n - (p + 1))
          case measure => omega
          case rel => exact ⟨p + 1, by omega, rfl, by go_num, HT2, Q3.out⟩
        all_goals
          clear HT HF
          go_wp2_with fail
          refine wp_region_quiet_cls (Since w) (by kernel_rfl) (by kernel_rfl) HG2.out ?_
          repeat (go_big_quiet_step (fail))
          refine wpQuiet_nil ?_
          intro _ hw'
          obtain ⟨nq3, hw''⟩ := hw'
          subst hw''
          have Q3 := Lib.hid (show Below w.heap.size w nq3.W from nq3.ok)
          go_wp2_with fail
          go_ret
          exact ⟨ret_bool HE.out.symm, Q3.out⟩
      · obtain rfl : p = n := by omega
        have i1 : ¬ (p : Int) < (p : Int) := by omega
        have HE : Hid (res = true) := Lib.hid (by rw [← HR.out]; exact decide_eq_true (HEQ.out.2 HI.out))
        go_wp2_with fail
        go_ret
        exact ⟨ret_bool HE.out.symm, HW.out⟩
  · have HE : Hid (res = false) := Lib.hid (by rw [← HR.out]; exact decide_eq_false (fun h => hlm (by rw [h])))
    have hb : ((l.length : Int) != (m.length : Int)) = true := by simp; omega
    generalize l.length = n at *
    generalize m.length = q at *
    go_enter Tryz.func32, Tryz.ntmps32
    go_wp2_with fail
    go_ret
    exact ⟨ret_bool HE.out.symm, Below.refl _ _⟩
end Go.Proofs.YtafdhccdjbfepaaGreat.Lst
/- A list of the call's own as the bytes of its block. -/
namespace Go.Proofs.YtafdhccdjbfepaaGreat.Lst
open Go.RowKit Go.Proofs.YtafdhccdjbfepaaGreat.K Go.Proofs.YtafdhccdjbfepaaGreat.Help Go.Proofs.YtafdhccdjbfepaaGreat.Pfx Go.Proofs.YtafdhccdjbfepaaGreat.Peer
set_option linter.unusedVariables false

theorem own_byt {w : World} {B : Nat} {v : Value} {L : List UInt8} (h : Own w B v L) (hl : 0 < L.length) : ∃ g c, v = .slice (some ⟨g, 0, none⟩) L.length c ∧ B ≤ g ∧ L.length ≤ c ∧ c ≤ 9223372036854775807 ∧ Byt w g L := by
  rcases h.1.2 with ⟨rfl, h0⟩ | ⟨g, cap, cur, rfl, hb, hh, hn, hm, hs, ht⟩
  · omega
  · refine ⟨g, cap, rfl, hb, hn, by simpa [maxLen] using hm, _, hh, fun i hi => ?_⟩
    have hc := h.1.cells (g := g) rfl i (.int .u8 ((L.getD i 0).toNat : Int)) (by simp [u8s, u8, hi])
    rw [addr_add_plain] at hc
    rw [← blk_cell hh]
    exact hc
end Go.Proofs.YtafdhccdjbfepaaGreat.Lst
/- Memory whose bytes alone have changed, or one cell that is no byte: what stays of slices, rows, peers, lanes. -/
namespace Go.Proofs.YtafdhccdjbfepaaGreat.Lst
open Go.RowKit Go.Proofs.YtafdhccdjbfepaaGreat.K Go.Proofs.YtafdhccdjbfepaaGreat.Help Go.Proofs.YtafdhccdjbfepaaGreat.Pfx Go.Proofs.YtafdhccdjbfepaaGreat.Peer
set_option linter.unusedVariables false
theorem cell_set (w : World) (g j b i : Nat) (v : Value) : (w.setCell ⟨g, j, none⟩ v).cell? ⟨b, i, none⟩ = if b = g ∧ i = j then (w.cell? ⟨b, i, none⟩).map (fun _ => v) else w.cell? ⟨b, i, none⟩ := by
  by_cases hb : b = g
  · subst hb
    cases e : w.heap[b]? with
    | none => simp [World.cell?, World.setCell, Array.getElem?_modify, e]
    | some o =>
      cases o with
      | cells cs t fr =>
        rw [blk_cell (blk_set e j v) i, blk_cell e i, Array.getElem?_setIfInBounds]
        by_cases hi : i = j
        · subst hi
          by_cases hlt : i < cs.size
          · simp [hlt]
          · simp [hlt]
        · have : ¬ j = i := fun h => hi h.symm
          simp [hi, this]
      | _ => simp [World.cell?, World.setCell, Array.getElem?_modify, e]
  · rw [if_neg (fun h => hb h.1)]
    exact cell_blk (ad := ⟨b, i, none⟩) (Below.heap_setCell w ⟨g, j, none⟩ v b hb)
theorem frozen_set (w : World) (g j b i : Nat) (v : Value) : (w.setCell ⟨g, j, none⟩ v).frozen? ⟨b, i, none⟩ = w.frozen? ⟨b, i, none⟩ := by
  by_cases hb : b = g
  · subst hb
    cases e : w.heap[b]? with
    | none => simp [World.frozen?, World.setCell, Array.getElem?_modify, e]
    | some o =>
      cases o with
      | cells cs t fr =>
        have := blk_set e j v
        simp [World.frozen?, this, e]
      | _ => simp [World.frozen?, World.setCell, Array.getElem?_modify, e]
  · have := Below.heap_setCell w ⟨g, j, none⟩ v b hb
    simp [World.frozen?, this]
def isU8 (v : Value) : Prop := ∃ x : UInt8, v = .int .u8 (x.toNat : Int)
/-- bytes alone have changed, into bytes -/
structure UC (w w' : World) : Prop where
  size : w.heap.size ≤ w'.heap.size
  cell : ∀ b j v, w.cell? ⟨b, j, none⟩ = some v → (w'.cell? ⟨b, j, none⟩ = some v ∨ (isU8 v ∧ ∃ u, w'.cell? ⟨b, j, none⟩ = some u ∧ isU8 u))
  fz : ∀ b j, b < w.heap.size → w'.frozen? ⟨b, j, none⟩ = w.frozen? ⟨b, j, none⟩
section
variable {w w' w2 : World} {A : Option Addr} {c : Nat}
theorem UC.below (hb : Below w.heap.size w w') : UC w w' := ⟨hb.size, fun b j v h => .inl (by
  have hlt : b < w.heap.size := by
    cases e : w.heap[b]? with
    | none => simp [World.cell?, e] at h
    | some o => exact blk_lt e
  exact (hb.cell (p := ⟨b, j, none⟩) hlt).trans h), fun b j hlt => by simp only [World.frozen?, hb.block b hlt]⟩
theorem UC.then_ (h : UC w w') (k : UC w' w2) : UC w w2 := ⟨Nat.le_trans h.size k.size, fun b j v e => by
  rcases h.cell b j v e with h1 | ⟨h1, u, h2, h3⟩
  · exact k.cell b j v h1
  · rcases k.cell b j u h2 with h4 | ⟨_, u2, h4, h5⟩
    · exact .inr ⟨h1, u, h4, h3⟩
    · exact .inr ⟨h1, u2, h4, h5⟩, fun b j hlt => (k.fz b j (Nat.lt_of_lt_of_le hlt h.size)).trans (h.fz b j hlt)⟩
theorem UC.set {g j : Nat} {x y : UInt8} (h : w.cell? ⟨g, j, none⟩ = some (.int .u8 (x.toNat : Int))) : UC w (w.setCell ⟨g, j, none⟩ (.int .u8 (y.toNat : Int))) := by
  refine ⟨by simp [World.setCell], fun b i v e => ?_, fun b i _ => frozen_set w g j b i _⟩
  rw [cell_set]
  by_cases hh : b = g ∧ i = j
  · rw [if_pos hh]
    obtain ⟨rfl, rfl⟩ := hh
    rw [h] at e
    injection e with e
    subst e
    rw [h]
    exact .inr ⟨⟨x, rfl⟩, _, rfl, ⟨y, rfl⟩⟩
  · rw [if_neg hh]
    exact .inl e
theorem UC.keep (h : UC w w') {b j : Nat} {v : Value} (e : w.cell? ⟨b, j, none⟩ = some v) (hv : ¬ isU8 v) : w'.cell? ⟨b, j, none⟩ = some v := (h.cell b j v e).elim id (fun h => absurd h.1 hv)
theorem notU8_slice {A : Option Addr} {n c : Nat} : ¬ isU8 (.slice A n c) := fun ⟨x, e⟩ => by cases e
theorem notU8_i64 {z : Int} : ¬ isU8 (.int .i64 z) := fun ⟨x, e⟩ => by cases e
theorem notU8_u64 {z : Int} : ¬ isU8 (.int .u64 z) := fun ⟨x, e⟩ => by cases e
theorem bs_uc {l : List UInt8} (h : Bs w A c l) (u : UC w w') : ∃ l', l'.length = l.length ∧ Bs w' A c l' := by
  have h1 : ∀ i : Fin l.length, ∃ y : UInt8, ∃ ad, A = some ad ∧ ad.block < w.heap.size ∧ w'.cell? (ad.add i.1) = some (.int .u8 (y.toNat : Int)) := fun i => by
    obtain ⟨ad, e, hlt, hc⟩ := h.at_ i.1 i.2
    have hs := cell_spot hc
    rw [hs] at hc
    rcases u.cell _ _ _ hc with h2 | ⟨_, v, h2, ⟨y, rfl⟩⟩
    · exact ⟨_, ad, e, hlt, by rw [hs]; exact h2⟩
    · exact ⟨y, ad, e, hlt, by rw [hs]; exact h2⟩
  obtain ⟨f, hf⟩ := Classical.axiomOfChoice h1
  refine ⟨List.ofFn f, List.length_ofFn, by rw [List.length_ofFn]; exact h.le, by rw [List.length_ofFn]; exact h.max, fun i hi => ?_⟩
  rw [List.length_ofFn] at hi
  obtain ⟨ad, e, hlt, hc⟩ := hf ⟨i, hi⟩
  refine ⟨ad, e, Nat.lt_of_lt_of_le hlt u.size, ?_⟩
  rw [hc]
  simp [hi]
theorem ps_uc {l : List PfxI} (h : Ps w A c l) (u : UC w w') : Ps w' A c l := ⟨h.le, h.max, h.lt, fun i hi => by
  obtain ⟨bk, off, e, hlt, c0, c1, c2, c3⟩ := h.at_ i hi
  exact ⟨bk, off, e, Nat.lt_of_lt_of_le hlt u.size, u.keep c0 notU8_i64, u.keep c1 notU8_u64, u.keep c2 notU8_u64, u.keep c3 notU8_i64⟩⟩
/-- a list's elements one by one -/
theorem Lst.of_each {α : Type} {E : Elem α} {N : Nat → Prop} {n : Nat} (hn : n ≤ c) (hc : c ≤ 9223372036854775807) (Q : Nat → α → Prop)
    (h : ∀ i, i < n → ∃ x bk off raw, A = some ⟨bk, off, none⟩ ∧ bk < w.heap.size ∧ ¬ N bk ∧ (∀ j, j < E.sz → w.cell? ⟨bk, off + i * E.sz + j, none⟩ = raw[j]?) ∧ E.R w N raw x ∧ Q i x) :
    ∃ l : List α, l.length = n ∧ Lst E w N A c l ∧ ∀ i x, l[i]? = some x → Q i x := by
  have h1 : ∀ i : Fin n, ∃ x, ∃ bk off raw, A = some ⟨bk, off, none⟩ ∧ bk < w.heap.size ∧ ¬ N bk ∧ (∀ j, j < E.sz → w.cell? ⟨bk, off + i.1 * E.sz + j, none⟩ = raw[j]?) ∧ E.R w N raw x ∧ Q i.1 x := fun i => h i.1 i.2
  obtain ⟨f, hf⟩ := Classical.axiomOfChoice h1
  have hx : ∀ i x, (List.ofFn f)[i]? = some x → ∃ hi : i < n, f ⟨i, hi⟩ = x := fun i x e => by
    have h2 := List.getElem?_eq_some_iff.1 e
    obtain ⟨hi, e2⟩ := h2
    rw [List.length_ofFn] at hi
    rw [List.getElem_ofFn] at e2
    exact ⟨hi, e2⟩
  refine ⟨List.ofFn f, List.length_ofFn, ⟨by rw [List.length_ofFn]; exact hn, hc, fun i x e => ?_⟩, fun i x e => ?_⟩
  · obtain ⟨hi, rfl⟩ := hx i x e
    obtain ⟨bk, off, raw, h3, h4, h5, h6, h7, _⟩ := hf ⟨i, hi⟩
    exact ⟨bk, off, raw, h3, h4, h5, h6, h7⟩
  · obtain ⟨hi, rfl⟩ := hx i x e
    obtain ⟨bk, off, raw, _, _, _, _, _, h8⟩ := hf ⟨i, hi⟩
    exact h8
theorem lstR_uc {l : List RowD} (h : Lst RowE w (fun _ => False) A c l) (u : UC w w') : ∃ l', l'.length = l.length ∧ Lst RowE w' (fun _ => False) A c l' := by
  obtain ⟨l', h1, h2, _⟩ := Lst.of_each (w := w') (E := RowE) (N := fun _ => False) (A := A) h.le h.max (fun _ _ => True) (fun i hi => by
    obtain ⟨bk, off, A1, a1, B1, b1, e, hlt, c0, c1, s1, s2⟩ := h.row i l[i] (List.getElem?_eq_getElem hi)
    obtain ⟨k', e1, t1⟩ := bs_uc s1.1 u
    obtain ⟨v', e2, t2⟩ := bs_uc s2.1 u
    refine ⟨(k', v'), bk, off, [.slice A1 l[i].1.length a1, .slice B1 l[i].2.length b1], e, Nat.lt_of_lt_of_le hlt u.size, id, fun j hj => ?_, ⟨A1, a1, B1, b1, by rw [e1, e2], Bs.bsn t1, Bs.bsn t2⟩, trivial⟩
    have hj2 : j < 2 := hj
    match j, hj2 with
    | 0, _ => exact u.keep c0 notU8_slice
    | 1, _ => exact u.keep c1 notU8_slice)
  exact ⟨l', h1, h2⟩
theorem psn_of {l : List PfxI} (h : Ps w A c l) : PsN w (fun _ => False) A c l := ⟨h, fun _ _ _ h => h⟩
theorem lstP_uc {l : List PeerD} (h : Lst PeerE w (fun _ => False) A c l) (u : UC w w') {m : Nat} (hm : ∀ x, x ∈ l → x.ps.length ≤ m) : ∃ l', l'.length = l.length ∧ (∀ x, x ∈ l' → x.ps.length ≤ m) ∧ Lst PeerE w' (fun _ => False) A c l' := by
  obtain ⟨l', h1, h2, h3⟩ := Lst.of_each (w := w') (E := PeerE) (N := fun _ => False) (A := A) h.le h.max (fun _ x => x.ps.length ≤ m) (fun i hi => by
    obtain ⟨bk, off, A1, a1, B1, b1, e, hlt, c0, c1, c2, s1, s2⟩ := h.peer i l[i] (List.getElem?_eq_getElem hi)
    obtain ⟨k', e1, t1⟩ := bs_uc s1.1 u
    refine ⟨⟨l[i].link, k', l[i].ps⟩, bk, off, [.int .i64 l[i].link, .slice A1 l[i].key.length a1, .slice B1 l[i].ps.length b1], e, Nat.lt_of_lt_of_le hlt u.size, id, fun j hj => ?_, ⟨A1, a1, B1, b1, by rw [e1], Bs.bsn t1, psn_of (ps_uc s2.1 u)⟩, hm l[i] (List.getElem_mem hi)⟩
    have hj2 : j < 3 := hj
    match j, hj2 with
    | 0, _ => exact u.keep c0 notU8_i64
    | 1, _ => exact u.keep c1 notU8_slice
    | 2, _ => exact u.keep c2 notU8_slice)
  exact ⟨l', h1, fun x hx => by
    obtain ⟨i, hi, rfl⟩ := List.mem_iff_getElem.1 hx
    exact h3 i _ (List.getElem?_eq_getElem hi), h2⟩
theorem lstL_uc {l : List LaneD} (h : Lst LaneE w (fun _ => False) A c l) (u : UC w w') : ∃ l', l'.length = l.length ∧ Lst LaneE w' (fun _ => False) A c l' := by
  obtain ⟨l', h1, h2, _⟩ := Lst.of_each (w := w') (E := LaneE) (N := fun _ => False) (A := A) h.le h.max (fun _ _ => True) (fun i hi => by
    obtain ⟨bk, off, A1, a1, e, hlt, c0, c1, c2, c3, c4, c5, c6, c7, s1, lb⟩ := h.lane i l[i] (List.getElem?_eq_getElem hi)
    obtain ⟨k', e1, t1⟩ := bs_uc s1.1 u
    refine ⟨⟨k', l[i].side, l[i].cur, l[i].next, l[i].sc, l[i].ceil, l[i].sec, l[i].nano⟩, bk, off, [.slice A1 l[i].key.length a1, .int .i64 l[i].side, .int .i64 l[i].cur, .int .i64 l[i].next, .int .u64 (l[i].sc : Int), .int .u64 (l[i].ceil : Int), .int .i64 l[i].sec, .int .i64 l[i].nano], e, Nat.lt_of_lt_of_le hlt u.size, id, fun j hj => ?_, ⟨A1, a1, by rw [e1], Bs.bsn t1, ⟨lb.sc, lb.ceil, lb.sec⟩⟩, trivial⟩
    have hj2 : j < 8 := hj
    match j, hj2 with
    | 0, _ => exact u.keep c0 notU8_slice
    | 1, _ => exact u.keep c1 notU8_i64
    | 2, _ => exact u.keep c2 notU8_i64
    | 3, _ => exact u.keep c3 notU8_i64
    | 4, _ => exact u.keep c4 notU8_u64
    | 5, _ => exact u.keep c5 notU8_u64
    | 6, _ => exact u.keep c6 notU8_i64
    | 7, _ => exact u.keep c7 notU8_i64)
  exact ⟨l', h1, h2⟩
end
/-! one cell that is no byte is written -/
section
variable {w : World} {A : Option Addr} {c g p : Nat} {old v : Value}
theorem bs_set {l : List UInt8} (h : Bs w A c l) (ho : w.cell? ⟨g, p, none⟩ = some old) (hv : ¬ isU8 old) : Bs (w.setCell ⟨g, p, none⟩ v) A c l := ⟨h.le, h.max, fun i hi => by
  obtain ⟨ad, e, hlt, hc⟩ := h.at_ i hi
  have hs := cell_spot hc
  refine ⟨ad, e, by simpa [World.setCell] using hlt, ?_⟩
  rw [hs] at hc ⊢
  rw [cell_set, if_neg, hc]
  rintro ⟨e1, e2⟩
  rw [e1, e2, ho] at hc
  injection hc with hc
  exact hv ⟨_, hc⟩⟩
theorem ps_set {l : List PfxI} (h : Ps w A c l) (ho : w.cell? ⟨g, p, none⟩ = some old) (h1 : ∀ z, old ≠ .int .i64 z) (h2 : ∀ z, old ≠ .int .u64 z) : Ps (w.setCell ⟨g, p, none⟩ v) A c l := ⟨h.le, h.max, h.lt, fun i hi => by
  obtain ⟨bk, off, e, hlt, c0, c1, c2, c3⟩ := h.at_ i hi
  refine ⟨bk, off, e, by simpa [World.setCell] using hlt, ?_, ?_, ?_, ?_⟩
  · rw [cell_set, if_neg, c0]
    rintro ⟨e1, e2⟩; rw [e1, e2, ho] at c0; injection c0 with c0; exact h1 _ c0
  · rw [cell_set, if_neg, c1]
    rintro ⟨e1, e2⟩; rw [e1, e2, ho] at c1; injection c1 with c1; exact h2 _ c1
  · rw [cell_set, if_neg, c2]
    rintro ⟨e1, e2⟩; rw [e1, e2, ho] at c2; injection c2 with c2; exact h2 _ c2
  · rw [cell_set, if_neg, c3]
    rintro ⟨e1, e2⟩; rw [e1, e2, ho] at c3; injection c3 with c3; exact h1 _ c3⟩
end
end Go.Proofs.YtafdhccdjbfepaaGreat.Lst
/- turn, marked, laid: bytes with marks behind them, written over in their place. -/
namespace Go.Proofs.YtafdhccdjbfepaaGreat.Lst
open Go.RowKit Go.Proofs.YtafdhccdjbfepaaGreat.K Go.Proofs.YtafdhccdjbfepaaGreat.Help Go.Proofs.YtafdhccdjbfepaaGreat.Pfx Go.Proofs.YtafdhccdjbfepaaGreat.Peer
set_option linter.unusedVariables false
def mark (i : Nat) : UInt8 := UInt8.ofNat (47 + 11 * i)
def marksL (n : Nat) : List UInt8 := (List.range n).map mark
theorem marks_len (n : Nat) : (marksL n).length = n := by simp [marksL]
theorem marks_step (n : Nat) : marksL (n + 1) = marksL n ++ [mark n] := by unfold marksL; rw [List.range_succ, List.map_append]; rfl
theorem getD_left {l r : List UInt8} {i : Nat} (hi : i < l.length) : (l ++ r).getD i 0 = l.getD i 0 := by simp [List.getD_eq_getElem?_getD, List.getElem?_append_left hi]
theorem getD_right {l r : List UInt8} (i : Nat) : (l ++ r).getD (l.length + i) 0 = r.getD i 0 := by rw [List.getD_eq_getElem?_getD, List.getD_eq_getElem?_getD, List.getElem?_append_right (by omega), Nat.add_sub_cancel_left]
theorem mark_wrap (i : Nat) (hi : i < 40) : IntKind.u8.wrap (47 + 11 * (i : Int)) = ((mark i).toNat : Int) := by
  rw [IntKind.wrap_u8]
  unfold mark
  rw [UInt8.toNat_ofNat']
  omega
/-- a key or value that was laid down: its bytes, forty marks behind them -/
def Mk (w : World) (g n : Nat) : Prop := ∃ l : List UInt8, l.length = n ∧ Byt w g (l ++ marksL 40)
theorem Mk.keep {w w' : World} {g n : Nat} (h : Mk w g n) (hb : Below w.heap.size w w') : Mk w' g n := by
  obtain ⟨l, h1, h2⟩ := h
  exact ⟨l, h1, h2.keep hb⟩
theorem Mk.bs {w : World} {g n c : Nat} (h : Mk w g n) (hc : n ≤ c) (hn : n ≤ 140737488355328) : ∃ l, l.length = n ∧ Bs w (some ⟨g, 0, none⟩) c l := by
  obtain ⟨l, h1, h2⟩ := h
  refine ⟨l, h1, by omega, by omega, fun i hi => ⟨_, rfl, h2.lt, ?_⟩⟩
  rw [addr_add_plain, h2.cell i (by rw [List.length_append]; omega)]
  rw [getD_left hi]
theorem turn_any (g n c : Nat) (w : World) (h : Mk w g n) (hn : n ≤ 1000000) :
    Calls Tryz.prog 11 #[.slice (some ⟨g, 0, none⟩) n c] w (fun e w' => e = .returned (.tuple #[]) ∧ Mk w' g n ∧ UC w w' ∧ Only w w' (fun i => i = g)) := by
  obtain ⟨l, hl, hb⟩ := h
  rcases Nat.eq_zero_or_pos n with h0 | h0
  · have H := Lib.hid (show Mk w g n from ⟨l, hl, hb⟩)
    subst h0
    clear hb hl
    go_enter Tryz.func11, Tryz.ntmps11
    go_wp2_with fail
    go_end0
    exact ⟨rfl, H.out, UC.below (Below.refl _ _), Only.refl _ _⟩
  · have i1 : (0 : Int) < (n : Int) := by omega
    have hj : n / 2 < n := by omega
    have c0 := hb.cell (n / 2) (by rw [List.length_append]; omega)
    have z0 := hb.free (n / 2)
    obtain ⟨y, hy⟩ : ∃ y : UInt8, bits .xor .u8 (((l ++ marksL 40).getD (n / 2) 0).toNat : Int) 1 = (y.toNat : Int) := ⟨UInt8.ofNat (((l ++ marksL 40).getD (n / 2) 0).toNat ^^^ 1), by
      have h1 := ((l ++ marksL 40).getD (n / 2) 0).toNat_lt
      rw [UInt8.toNat_ofNat', Nat.mod_eq_of_lt (Nat.xor_lt_two_pow (n := 8) h1 (by decide))]
      exact u8_xor_nat ((l ++ marksL 40).getD (n / 2) 0).toNat 1 h1 (by decide)⟩
    have HM : Hid (Mk (w.setCell ⟨g, n / 2, none⟩ (.int .u8 (y.toNat : Int))) g n) := Lib.hid ⟨l.set (n / 2) y, by rw [List.length_set]; exact hl, by
      have := hb.set (n / 2) y
      rwa [List.set_append_left _ _ (by omega)] at this⟩
    have HU := Lib.hid (UC.set (y := y) c0)
    have HO : Hid (Only w (w.setCell ⟨g, n / 2, none⟩ (.int .u8 (y.toNat : Int))) (fun i => i = g)) := Lib.hid ((Only.refl w (fun i => i = g)).setCell (p := ⟨g, n / 2, none⟩) (.inl rfl) _)
    generalize ((l ++ marksL 40).getD (n / 2) 0) = x at *
    clear hb hl
    have j0 : (0 : Int) ≤ (n : Int) / 2 := by omega
    have j1 : (n : Int) / 2 < (n : Int) := by omega
    go_enter Tryz.func11, Tryz.ntmps11
    go_wp2_with fail
    go_end0
    exact ⟨rfl, HM.out, HU.out, HO.out⟩
end Go.Proofs.YtafdhccdjbfepaaGreat.Lst
