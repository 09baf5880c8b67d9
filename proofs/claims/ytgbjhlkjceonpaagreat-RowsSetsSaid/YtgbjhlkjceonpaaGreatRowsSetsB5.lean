/- Contracts of the functions that RowsSets reaches: part 5 of 6. -/
import Derived.Test.YtgbjhlkjceonpaaGreatRowsSetsB4
import Derived.Laws.IdiomStrings
import Derived.Carry
import Derived.Lib.BytesEntry
import Derived.Lib.Bytealg
import Derived.Shelf.SlSortCmp.WholeK
import Derived.Shelf.SlSortCmp.NoneTotal
/- What the program's State answers, plain; what has been gathered; []byte(s). -/
namespace Go.Proofs.YtgbjhlkjceonpaaGreat.Lst
open Go.RowKit Go.Proofs.YtgbjhlkjceonpaaGreat.K Go.Proofs.YtgbjhlkjceonpaaGreat.Help Go.Proofs.YtgbjhlkjceonpaaGreat.Pfx Go.Proofs.YtgbjhlkjceonpaaGreat.Peer
set_option linter.unusedVariables false

abbrev T3 := List PeerD × List LaneD × Int
/-- one row -/
noncomputable def stepO (s : T3) (k v : List UInt8) : Option T3 :=
  match k with
  | [] => none
  | c :: _ =>
    if c = 80 then (if (peerGet k v).2 = 0 then some (s.1 ++ [(peerGet k v).1], s.2.1, s.2.2) else none)
    else if c = 76 then (if (laneGet k v).2 = 0 then some (s.1, s.2.1 ++ [(laneGet k v).1], s.2.2) else none)
    else if c = 66 then (if (bootsGet k v).2 = 0 then some (s.1, s.2.1, (bootsGet k v).1) else none)
    else none
def valOf (l : List RowD) (k : List UInt8) : List UInt8 := match l.find? (fun r => r.1 == k) with | some r => r.2 | none => []
noncomputable def stepK (l : List RowD) (s : Option T3) (k : List UInt8) : Option T3 := match s with | none => none | some s => stepO s k (valOf l k)
def keysL (l : List RowD) : List (List UInt8) := (l.map Prod.fst).mergeSort (fun x y => decide (x ≤ y))
noncomputable def foldK (l : List RowD) : Option T3 := (keysL l).foldl (stepK l) (some ([], [], 0))
noncomputable def ansK (o : Option T3) : AnsD := match o with | none => ([], [], 0, 114) | some s => if wholeB s.1 s.2.1 = true then (s.1, s.2.1, s.2.2, 0) else ([], [], 0, 114)
open Classical in
noncomputable def progState (l : List RowD) : AnsD := if (l.map Prod.fst).Nodup then ansK (foldK l) else ([], [], 0, 114)
theorem foldK_none (l : List RowD) : ∀ ks : List (List UInt8), ks.foldl (stepK l) none = none
  | [] => rfl
  | k :: t => foldK_none l t
theorem foldK_step (l : List RowD) (ks : List (List UInt8)) (s : Option T3) (j : Nat) (hj : j < ks.length) : (ks.take (j + 1)).foldl (stepK l) s = stepK l ((ks.take j).foldl (stepK l) s) (ks.getD j []) := by
  rw [List.take_succ_eq_append_getElem hj, List.foldl_append]
  simp [hj]
theorem foldK_stop (l : List RowD) (ks : List (List UInt8)) (s : Option T3) (j : Nat) (h : (ks.take j).foldl (stepK l) s = none) : ks.foldl (stepK l) s = none := by
  rw [← List.take_append_drop j ks, List.foldl_append, h, foldK_none]
/-- what has been gathered of l -/
def GOf (w : World) (l : List RowD) (rs : List GRow) : Prop := rs.length = l.length ∧ ∀ (i : Nat) (x : RowD), l[i]? = some x → ∃ B b, rs[i]? = some (x.1, .slice B x.2.length b) ∧ Bs w B b x.2
theorem GOf.nil (w : World) : GOf w [] [] := ⟨rfl, fun i x h => by simp at h⟩
theorem GOf.snoc {w : World} {l : List RowD} {rs : List GRow} (h : GOf w l rs) {x : RowD} {B : Option Addr} {b : Nat} (hb : Bs w B b x.2) : GOf w (l ++ [x]) (rs ++ [(x.1, .slice B x.2.length b)]) := by
  refine ⟨by simp [h.1], fun i y hy => ?_⟩
  by_cases hi : i < l.length
  · rw [List.getElem?_append_left hi] at hy
    obtain ⟨B', b', e, s⟩ := h.2 i y hy
    exact ⟨B', b', by rw [List.getElem?_append_left (by rw [h.1]; exact hi)]; exact e, s⟩
  · have e1 : i = l.length := by
      have := (List.getElem?_eq_some_iff.1 hy).1
      simp at this
      omega
    subst e1
    rw [List.getElem?_append_right (by omega), Nat.sub_self] at hy
    simp at hy
    subst hy
    exact ⟨B, b, by rw [← h.1]; simp, hb⟩
theorem GOf.fst {w : World} {l : List RowD} {rs : List GRow} (h : GOf w l rs) : rs.map Prod.fst = l.map Prod.fst := by
  apply List.ext_getElem?
  intro i
  rw [List.getElem?_map, List.getElem?_map]
  by_cases hi : i < l.length
  · obtain ⟨B, b, e, _⟩ := h.2 i l[i] (List.getElem?_eq_getElem hi)
    rw [e, List.getElem?_eq_getElem hi]
    rfl
  · have e1 : l[i]? = none := List.getElem?_eq_none (by omega)
    have e2 : rs[i]? = none := List.getElem?_eq_none (by rw [h.1]; omega)
    rw [e1, e2]; rfl
theorem find_pair {w : World} (k : List UInt8) : ∀ (l : List RowD) (rs : List GRow), GOf w l rs → k ∈ l.map Prod.fst → ∃ B b, lookG rs k = .slice B (valOf l k).length b ∧ Bs w B b (valOf l k)
  | [], rs, h, hk => by simp at hk
  | x :: t, rs, h, hk => by
    obtain ⟨B, b, e, s⟩ := h.2 0 x (by simp)
    match rs, h, e with
    | r :: rt, h, e =>
      simp at e
      subst e
      have ht : GOf w t rt := ⟨by have := h.1; simpa using this, fun i y hy => by simpa using h.2 (i + 1) y (by simpa using hy)⟩
      by_cases hx : x.1 = k
      · refine ⟨B, b, ?_, ?_⟩
        · simp [lookG, valOf, hx]
        · simpa [valOf, hx] using s
      · have hk2 : k ∈ t.map Prod.fst := by
          rw [List.map_cons, List.mem_cons] at hk
          exact hk.resolve_left (fun e => hx e.symm)
        obtain ⟨B', b', e', s'⟩ := find_pair k t rt ht hk2
        have hb : (x.1 == k) = false := by simpa using hx
        refine ⟨B', b', ?_, ?_⟩
        · unfold lookG valOf at e' ⊢
          rw [List.find?_cons, List.find?_cons, hb]
          exact e'
        · unfold valOf at s' ⊢
          rw [List.find?_cons, hb]
          exact s'
/-- []byte(s) -/
theorem bytes_of (w : World) (k : List UInt8) (hk : k.length ≤ 140737488355328) : ∃ cap w1, (convert 9 49 (.string ⟨k.toArray⟩)).run Tryz.prog w = .ok (.slice (some ⟨w.heap.size, 0, none⟩) k.length cap) w1
    ∧ Bs w1 (some ⟨w.heap.size, 0, none⟩) cap k ∧ Below w.heap.size w w1 := by
  have hrun := run_bytes_of_string (P := Tryz.prog) w 9 49 5 ⟨k.toArray⟩ u_str u_slice8 u_u8
  have hge := grownCap_ge w (ByteArray.size ⟨k.toArray⟩) 0 5
  have hsz : ByteArray.size ⟨k.toArray⟩ = k.length := by simp [ByteArray.size]
  generalize grownCap w (ByteArray.size ⟨k.toArray⟩) 0 5 = cap at *
  have hb : (w.drew.alloc (.cells (bytesRow ⟨k.toArray⟩ cap) 5 ((bytesRow ⟨k.toArray⟩ cap).size, (bytesRow ⟨k.toArray⟩ cap).size + 1))).heap[w.heap.size]? = some (.cells (bytesRow ⟨k.toArray⟩ cap) 5 ((bytesRow ⟨k.toArray⟩ cap).size, (bytesRow ⟨k.toArray⟩ cap).size + 1)) := by
    show (w.heap.push _)[w.heap.size]? = _
    simp
  have hB : Below w.heap.size w (w.drew.alloc (.cells (bytesRow ⟨k.toArray⟩ cap) 5 ((bytesRow ⟨k.toArray⟩ cap).size, (bytesRow ⟨k.toArray⟩ cap).size + 1))) := below_alloc (below_drewN (Below.refl _ _) 1) _
  rw [hsz] at hrun hge
  refine ⟨cap, _, hrun, ⟨hge, hk, fun i hi => ⟨_, rfl, blk_lt hb, ?_⟩⟩, hB⟩
  rw [addr_add_plain]
  refine (blk_cell hb i).trans ?_
  unfold bytesRow
  rw [Array.getElem?_append_left (by simpa using hi)]
  simp [hi]
end Go.Proofs.YtgbjhlkjceonpaaGreat.Lst
/- find; sets as elements of lists. -/
namespace Go.Proofs.YtgbjhlkjceonpaaGreat.Lst
open Go.RowKit Go.Proofs.YtgbjhlkjceonpaaGreat.K Go.Proofs.YtgbjhlkjceonpaaGreat.Help Go.Proofs.YtgbjhlkjceonpaaGreat.Pfx Go.Proofs.YtgbjhlkjceonpaaGreat.Peer
set_option linter.unusedVariables false

def hasK (l : List RowD) (k : List UInt8) : Bool := l.any (fun r => r.1 == k)
def RetF (w : World) (l : List RowD) (k : List UInt8) (e : Ending) (w' : World) : Prop := ∃ B b, e = .returned (.tuple #[.slice B (valOf l k).length b, .bool (hasK l k)]) ∧ Bs w' B b (valOf l k) ∧ Below w.heap.size w w'
theorem find_hit {l : List RowD} {k : List UInt8} {i : Nat} (hi : i < l.length) (h0 : ∀ j, j < i → (l.getD j zR).1 ≠ k) (h1 : (l.getD i zR).1 = k) : hasK l k = true ∧ valOf l k = (l.getD i zR).2 := by
  induction l generalizing i with
  | nil => simp at hi
  | cons r t ih =>
    match i with
    | 0 =>
      simp at h1 ⊢
      exact ⟨by simp [hasK, h1], by simp [valOf, h1]⟩
    | i + 1 =>
      have hr : (r.1 == k) = false := by simpa using h0 0 (by omega)
      have h2 := ih (i := i) (by simpa using hi) (fun j hj => by have := h0 (j + 1) (by omega); simpa using this) (by simpa using h1)
      refine ⟨by unfold hasK at h2 ⊢; rw [List.any_cons, h2.1]; simp, ?_⟩
      unfold valOf at h2 ⊢
      rw [List.find?_cons, hr]
      simpa using h2.2
theorem find_miss {l : List RowD} {k : List UInt8} (h0 : ∀ j, j < l.length → (l.getD j zR).1 ≠ k) : hasK l k = false ∧ valOf l k = [] := by
  induction l with
  | nil => exact ⟨rfl, rfl⟩
  | cons r t ih =>
    have hr : (r.1 == k) = false := by simpa using h0 0 (by simp)
    have h2 := ih (fun j hj => by have := h0 (j + 1) (by simpa using hj); simpa using this)
    refine ⟨by unfold hasK at h2 ⊢; rw [List.any_cons, h2.1, hr]; rfl, ?_⟩
    unfold valOf at h2 ⊢
    rw [List.find?_cons, hr]
    exact h2.2
set_option maxRecDepth 100000 in
set_option maxHeartbeats 1000000 in
theorem find_any (A : Option Addr) (c : Nat) (l : List RowD) (K : Option Addr) (kc : Nat) (k : List UInt8) (w : World) (hl : Lst RowE w (fun _ => False) A c l) (hk : Bs w K kc k) :
    Calls Tryz.prog 56 #[.slice A l.length c, .slice K k.length kc] w (RetF w l k) := by
  have HL := Lib.hid hl
  have HK := Lib.hid hk
  have h1 := hl.le
  have h2 := hl.max
  clear hl hk
  unfold RetF
  generalize hm : l.length = n at *
  have HN := Lib.hid hm
  clear hm
  go_enter Tryz.func56, Tryz.ntmps56
  go_wp2_with fail
  go_loopg [6] n (fun gk i wr => ∃ j : Nat, j ≤ n ∧ gk = n - j ∧ i = .int .i64 (j : Int) ∧ Hid (∀ i, i < j → (l.getD i zR).1 ≠ k) ∧ Below w.heap.size w wr)
  case atStart => exact ⟨0, by omega, rfl, rfl, fun i h => by omega, Below.refl _ _⟩
  case round =>
    obtain ⟨j, hj, rfl, rfl, HM, hb⟩ := hrel
    have HW := Lib.hid hb
    clear hb
    by_cases hlt : j < n
    · have i1 : (j : Int) < (n : Int) := by omega
      have i0 : (0 : Int) ≤ (j : Int) := by omega
      obtain ⟨bk, off, A1, a1, B1, b1, rfl, hbk, c0, c1, s1, s2⟩ := HL.out.row j _ (getD_get zR (by rw [HN.out]; exact hlt))
      have HIT := Lib.hid (fun h1 => find_hit (l := l) (k := k) (i := j) (by rw [HN.out]; exact hlt) HM.out h1)
      obtain ⟨⟨xk, xv⟩, hx⟩ : ∃ y, l.getD j zR = y := ⟨_, rfl⟩
      have HX := Lib.hid hx
      rw [hx] at c0 c1 s1 s2 HIT
      dsimp only at c0 c1 s1 s2 HIT
      have y0 : wr.cell? ⟨bk, off + j * 2, none⟩ = some (.slice A1 xk.length a1) := (HW.out.cell (p := ⟨bk, _, none⟩) hbk).trans c0
      have C1 := Lib.hid c1
      have HBK := Lib.hid hbk
      have S2 := Lib.hid s2.1
      have P := Lib.hid (sameBytes A1 K a1 kc xk k wr (s1.1.below HW.out) (HK.out.below HW.out))
      clear c0 c1 s1 s2 hx hbk
      by_cases he : xk = k
      · have P2 := P.out
        rw [show decide (xk = k) = true from decide_eq_true he] at P2
        have PP := Lib.hid P2
        obtain ⟨g1, g2⟩ := HIT.out he
        have G1 := Lib.hid g1
        have G2 := Lib.hid g2
        clear P P2 g1 g2 he
        go_wp2_with fail
        refine PP.out.mono ?_
        rintro e w2 ⟨q, rfl, rfl⟩
        have W2 := Lib.hid (below_drewN HW.out q)
        generalize wr.drewN q = w2 at *
        have y1 : w2.cell? ⟨bk, off + j * 2 + 1, none⟩ = some (.slice B1 xv.length b1) := (W2.out.cell (p := ⟨bk, _, none⟩) HBK.out).trans C1.out
        go_wp2_with fail
        exact bodyPost_ret (v := .tuple #[.slice B1 xv.length b1, .bool true]) (by simp [results, Tryz.results56, go_sem]) rfl ⟨B1, b1, by rw [G1.out, G2.out], by rw [G2.out]; exact S2.out.below W2.out, W2.out⟩
      · have P2 := P.out
        rw [show decide (xk = k) = false from decide_eq_false he] at P2
        have PP := Lib.hid P2
        have HE := Lib.hid he
        clear P P2 he
        go_wp2_with fail
        refine PP.out.mono ?_
        rintro e w2 ⟨q, rfl, rfl⟩
        have W2 := Lib.hid (below_drewN HW.out q)
        generalize wr.drewN q = w2 at *
        go_wp2_with fail
        go_roundg (n - (j + 1))
        case measure => omega
        case rel => exact ⟨j + 1, by omega, rfl, by go_num, fun i hi => by
          rcases Nat.lt_or_ge i j with h | h
          · exact HM.out i h
          · have : i = j := by omega
            subst this
            rw [HX.out]; exact HE.out, W2.out⟩
    · obtain rfl : j = n := by omega
      have i1 : ¬ (j : Int) < (j : Int) := by omega
      obtain ⟨g1, g2⟩ := find_miss (l := l) (k := k) (fun i hi => HM.out i (by rw [HN.out] at hi; exact hi))
      have G1 := Lib.hid g1
      have G2 := Lib.hid g2
      clear g1 g2
      go_wp2_with fail
      exact bodyPost_ret (v := .tuple #[.slice none 0 0, .bool false]) (by simp [results, Tryz.results56, go_sem]) rfl ⟨none, 0, by rw [G1.out, G2.out]; rfl, by rw [G2.out]; exact Bs.nil _ _ _, HW.out⟩
abbrev SetD := List UInt8 × List UInt8 × Bool
def SetR (w : World) (N : Nat → Prop) (raw : List Value) (x : SetD) : Prop := ∃ A a B b, raw = [.slice A x.1.length a, .slice B x.2.1.length b, .bool x.2.2] ∧ BsN w N A a x.1 ∧ BsN w N B b x.2.1
def SetE : Elem SetD where
  sz := 3
  R := SetR
  len := fun ⟨A, a, B, b, h, _⟩ => by rw [h]; rfl
  one := fun ⟨A, a, B, b, h, _⟩ u hu => by
    rw [h] at hu
    simp only [List.mem_cons, List.not_mem_nil, or_false] at hu
    rcases hu with rfl | rfl | rfl <;> rfl
  below := fun ⟨A, a, B, b, h, h1, h2⟩ hb => ⟨A, a, B, b, h, h1.below hb, h2.below hb⟩
  only := fun ⟨A, a, B, b, h, h1, h2⟩ k hT => ⟨A, a, B, b, h, h1.only k hT, h2.only k hT⟩
  reno := fun ⟨A, a, B, b, h, h1, h2⟩ hN => ⟨A, a, B, b, h, h1.reno hN, h2.reno hN⟩
theorem info_set : (Tryz.prog.info? 96).map (fun i => (i.zero, i.size, i.bytes)) = some (some (.agg #[.slice none 0 0, .slice none 0 0, .bool false]), 3, 56) := by kernel_rfl
end Go.Proofs.YtgbjhlkjceonpaaGreat.Lst
/- The walk of the document's laySet. -/
namespace Go.Proofs.YtgbjhlkjceonpaaGreat.Lst
open Go.RowKit Go.Proofs.YtgbjhlkjceonpaaGreat.K Go.Proofs.YtgbjhlkjceonpaaGreat.Help Go.Proofs.YtgbjhlkjceonpaaGreat.Pfx Go.Proofs.YtgbjhlkjceonpaaGreat.Peer
set_option linter.unusedVariables false

theorem set_key {w : World} {N : Nat → Prop} {A : Option Addr} {n a : Nat} {rest : List Value} {d : SetD} (h : SetE.R w N (Value.slice A n a :: rest) d) : Bs w A a d.1 := by
  obtain ⟨A', a', B', b', e, h1, h2⟩ := h
  injection e with e1 e2
  injection e1 with e3 e4 e5
  subst e3 e5
  exact h1.1
def ltS (a b : SetD) : Bool := lessB a.1 b.1
def zeroSet : SetD := ([], [], false)
set_option maxRecDepth 100000 in
set_option maxHeartbeats 4000000 in
theorem laySet_any (A : Option Addr) (c : Nat) (l : List SetD) (A0 : Option Addr) (a0 : Nat) (B0 : Option Addr) (b0 : Nat) (p : SetD) (w : World) (hl : Lst SetE w (fun _ => False) A c l) (hr : SetE.R w (fun _ => False) ([Value.slice A0 p.1.length a0, .slice B0 p.2.1.length b0, .bool p.2.2]) p) (hn : l.length ≤ 1000) :
    Calls Tryz.prog 58 #[.slice A l.length c, .agg ([Value.slice A0 p.1.length a0, .slice B0 p.2.1.length b0, .bool p.2.2]).toArray] w (RetL SetE w (layG ltS l p)) := by
  have HL := Lib.hid hl
  have h1 := hl.le
  have h2 := hl.max
  have HP := Lib.hid hr
  clear hl hr
  generalize hm : l.length = n at *
  have HN := Lib.hid hm
  clear hm
  generalize hg : layG ltS l p = res
  have HG := Lib.hid hg
  clear hg
  obtain ⟨pk, pv, pg⟩ := p
  dsimp only at HP ⊢
  have HB0 := Lib.hid (blk_new w (.cells #[.slice A0 pk.length a0, .slice B0 pv.length b0, .bool pg] 96))
  go_enter Tryz.func58, Tryz.ntmps58
  go_wp2_with fail
  go_loopg [7, 5, 6] n (fun gk i s5 s6 wr => ∃ (k : Nat) (M : List SetD) (b : Bool), k ≤ n ∧ gk = n - k ∧ i = .int .i64 (k : Int) ∧ s6 = .bool b ∧ Hid ((l.take k).foldl (layF ltS (pk, pv, pg)) ([], false) = (M, b)) ∧ OwnL SetE 96 wr (fun _ => False) (w.heap.size + 1) s5 M ∧ wr.heap[w.heap.size]? = some (.cells #[.slice A0 pk.length a0, .slice B0 pv.length b0, .bool pg] 96 (0, 0)) ∧ Below w.heap.size w wr)
  case atStart => exact ⟨0, [], false, by omega, rfl, rfl, rfl, rfl, OwnL.nil _ _ _ _ _, HB0.out, (Below.refl _ _).alloc (Nat.le_refl _) _⟩
  case round =>
    obtain ⟨k, M, b, hk, rfl, rfl, rfl, HM, ho, hb, hbel⟩ := hrel
    obtain ⟨AM, cM, rfl⟩ := ho.slice
    have hlen := layF_len ltS (pk, pv, pg) (l.take k) ([], false)
    rw [HM.out] at hlen
    have hml : M.length ≤ 1002 := by have := hlen.1; simp only [List.length_nil, List.length_take] at this; omega
    clear hlen
    have HML := Lib.hid hml
    have p0 : wr.cell? ⟨w.heap.size, 0, none⟩ = some (.slice A0 pk.length a0) := (blk_cell hb 0).trans rfl
    have p1 : wr.cell? ⟨w.heap.size, 1, none⟩ = some (.slice B0 pv.length b0) := (blk_cell hb 1).trans rfl
    have p2 : wr.cell? ⟨w.heap.size, 2, none⟩ = some (.bool pg) := (blk_cell hb 2).trans rfl
    have HO := Lib.hid ho
    have HB := Lib.hid hb
    have HW := Lib.hid hbel
    have hsz : w.heap.size + 1 ≤ wr.heap.size := blk_lt hb
    have HSZ := Lib.hid hsz
    clear ho hb hbel hsz hml
    by_cases hlt : k < n
    · have i1 : (k : Int) < (n : Int) := by omega
      have i0 : (0 : Int) ≤ (k : Int) := by omega
      have HST := Lib.hid (lay_step ltS (pk, pv, pg) zeroSet l k (by rw [HN.out]; exact hlt))
      rw [HM.out] at HST
      obtain ⟨bk, off, raw, rfl, hbk, -, hc, hR⟩ := HL.out.at_ k _ (getD_get zeroSet (by rw [HN.out]; exact hlt))
      obtain ⟨⟨xk, xv, xg⟩, hx⟩ : ∃ y, l.getD k zeroSet = y := ⟨_, rfl⟩
      rw [hx] at hR HST
      have hR2 := hR
      obtain ⟨A1, a1, B1, b1, rfl, -, -⟩ := hR
      have hRX : SetE.R w (fun _ => False) ([Value.slice A1 xk.length a1, .slice B1 xv.length b1, .bool xg]) (xk, xv, xg) := hR2
      have HRX := Lib.hid hRX
      have x0 : wr.cell? ⟨bk, off + k * 3, none⟩ = some (.slice A1 xk.length a1) := (HW.out.cell (p := ⟨bk, _, none⟩) hbk).trans (hc 0 (by decide))
      have x1 : wr.cell? ⟨bk, off + k * 3 + 1, none⟩ = some (.slice B1 xv.length b1) := (HW.out.cell (p := ⟨bk, _, none⟩) hbk).trans (hc 1 (by decide))
      have x2 : wr.cell? ⟨bk, off + k * 3 + 2, none⟩ = some (.bool xg) := (HW.out.cell (p := ⟨bk, _, none⟩) hbk).trans (hc 2 (by decide))
      clear hc hR2 hx hRX
      have VL := Lib.hid (fun n => less_any A0 A1 a0 a1 pk xk (wr.drewN n) (((set_key HP.out).below HW.out).drewN n) (((set_key HRX.out).below HW.out).drewN n))
      cases b
      · by_cases hlk : lessB pk xk = true
        · have hs := HST.out
          rw [layF_yes (by unfold ltS; exact hlk)] at hs
          rw [hlk] at VL
          have HS := Lib.hid hs
          clear hs hlk
          go_wp2_with fail
          go_quiet ((go_at_call 88; exact quiet_at0 (VL.out _)))
          obtain ⟨wq, hwq⟩ : ∃ W, W = wr.drewN nq := ⟨_, rfl⟩
          rw [← hwq]
          have HOq : Hid (OwnL SetE 96 wq (fun _ => False) (w.heap.size + 1) (.slice AM M.length cM) M) := by rw [hwq]; exact HO.out.drewN nq
          have HBq : Hid (wq.heap[w.heap.size]? = some (.cells #[.slice A0 pk.length a0, .slice B0 pv.length b0, .bool pg] 96 (0, 0))) := by rw [hwq]; exact HB.out
          have HWq : Hid (Below w.heap.size w wq) := by rw [hwq]; exact below_drewN HW.out nq
          have HSQ : Hid (w.heap.size + 1 ≤ wq.heap.size) := Lib.hid (blk_lt HBq.out)
          have p0q : wq.cell? ⟨w.heap.size, 0, none⟩ = some (.slice A0 pk.length a0) := (blk_cell HBq.out 0).trans rfl
          have p1q : wq.cell? ⟨w.heap.size, 1, none⟩ = some (.slice B0 pv.length b0) := (blk_cell HBq.out 1).trans rfl
          have p2q : wq.cell? ⟨w.heap.size, 2, none⟩ = some (.bool pg) := (blk_cell HBq.out 2).trans rfl
          have x0q : wq.cell? ⟨bk, off + k * 3, none⟩ = some (.slice A1 xk.length a1) := by rw [hwq]; exact x0
          have x1q : wq.cell? ⟨bk, off + k * 3 + 1, none⟩ = some (.slice B1 xv.length b1) := by rw [hwq]; exact x1
          have x2q : wq.cell? ⟨bk, off + k * 3 + 2, none⟩ = some (.bool xg) := by rw [hwq]; exact x2
          clear hwq
          have HWP := Lib.hid (below_alloc HWq.out (.cells #[.slice A0 pk.length a0, .slice B0 pv.length b0, .bool pg] 96))
          have HP1 := Lib.hid (blk_new wq (.cells #[.slice A0 pk.length a0, .slice B0 pv.length b0, .bool pg] 96))
          have HOP := Lib.hid (HOq.out.below (below_alloc (Below.refl _ _) (.cells #[.slice A0 pk.length a0, .slice B0 pv.length b0, .bool pg] 96)))
          have HBP := Lib.hid (blk_alloc HBq.out (.cells #[.slice A0 pk.length a0, .slice B0 pv.length b0, .bool pg] 96))
          have HPA := Lib.hid (old_el HP.out HWP.out HOP.out (Nat.le_succ _))
          go_wp2_with (first
          | (at_builtin; refine push (E := SetE) 96 38 _ 56 rfl (.tmp 26) (.tmp 28) rfl Tryz.underlying38 info_set rfl (by decide) (by decide) (by decide) (.slice AM M.length cM) M (pk, pv, pg) ([Value.slice A0 pk.length a0, .slice B0 pv.length b0, .bool pg]) wq.heap.size 1 rfl rfl HOP.out HP1.out HPA.out (by have := HSQ.out; simp; omega) (by have := HML.out; omega) ?_ (fun _ h => h.elim); intro A2 c2 w2 o2 k2 n2; have W2 := Lib.hid (below_only HWP.out k2 (fun i hi => by have := HOP.out.base_le hi; omega)); have B2 := Lib.hid (k2.blk HBP.out (fun h => by have := HOP.out.base_le h; omega)); have y0 : w2.cell? ⟨bk, off + k * 3, none⟩ = some (.slice A1 xk.length a1) := (W2.out.cell (p := ⟨bk, _, none⟩) hbk).trans ((HWq.out.cell (p := ⟨bk, _, none⟩) hbk).symm.trans x0q); have y1 : w2.cell? ⟨bk, off + k * 3 + 1, none⟩ = some (.slice B1 xv.length b1) := (W2.out.cell (p := ⟨bk, _, none⟩) hbk).trans ((HWq.out.cell (p := ⟨bk, _, none⟩) hbk).symm.trans x1q); have y2 : w2.cell? ⟨bk, off + k * 3 + 2, none⟩ = some (.bool xg) := (W2.out.cell (p := ⟨bk, _, none⟩) hbk).trans ((HWq.out.cell (p := ⟨bk, _, none⟩) hbk).symm.trans x2q); have S2 := Lib.hid (blk_lt B2.out); have W2A := Lib.hid (below_alloc W2.out (.cells #[.slice A1 xk.length a1, .slice B1 xv.length b1, .bool xg] 96)); have X2 := Lib.hid (blk_new w2 (.cells #[.slice A1 xk.length a1, .slice B1 xv.length b1, .bool xg] 96)); have O2A := Lib.hid (o2.below (below_alloc (Below.refl _ _) (.cells #[.slice A1 xk.length a1, .slice B1 xv.length b1, .bool xg] 96))); have B2A := Lib.hid (blk_alloc B2.out (.cells #[.slice A1 xk.length a1, .slice B1 xv.length b1, .bool xg] 96)); have R2A := Lib.hid (old_el HRX.out W2A.out O2A.out (Nat.le_succ _)); clear o2 k2 n2)
          | (at_builtin; refine push (E := SetE) 96 38 _ 56 rfl (.tmp 30) (.tmp 35) rfl Tryz.underlying38 info_set rfl (by decide) (by decide) (by decide) (.slice A2 (M.length + 1) c2) (M ++ [(pk, pv, pg)]) (xk, xv, xg) ([Value.slice A1 xk.length a1, .slice B1 xv.length b1, .bool xg]) w2.heap.size 1 rfl rfl O2A.out X2.out R2A.out (by have := S2.out; simp; omega) (by have := HML.out; simp; omega) ?_ (fun _ h => h.elim); intro A3 c3 w3 o3 k3 n3; have O3 := Lib.hid o3; have W3 := Lib.hid (below_only W2A.out k3 (fun i hi => by have := O2A.out.base_le hi; omega)); have B3 := Lib.hid (k3.blk B2A.out (fun h => by have := O2A.out.base_le h; omega)); clear o3 k3 n3))
          go_roundg (n - (k + 1))
          case measure => omega
          case rel => exact ⟨k + 1, M ++ [(pk, pv, pg), (xk, xv, xg)], true, by omega, rfl, by go_num, rfl, HS, by have h := O3.out; rw [List.append_assoc] at h; simpa using h, B3.out, W3.out⟩

        · have hl2 : lessB pk xk = false := by simpa using hlk
          have hs := HST.out
          rw [layF_no (.inr (by unfold ltS; exact hl2))] at hs
          rw [hl2] at VL
          have HS := Lib.hid hs
          clear hs hlk hl2
          go_wp2_with fail
          go_quiet ((go_at_call 88; exact quiet_at0 (VL.out _)))
          obtain ⟨wq, hwq⟩ : ∃ W, W = wr.drewN nq := ⟨_, rfl⟩
          rw [← hwq]
          have HOq : Hid (OwnL SetE 96 wq (fun _ => False) (w.heap.size + 1) (.slice AM M.length cM) M) := by rw [hwq]; exact HO.out.drewN nq
          have HBq : Hid (wq.heap[w.heap.size]? = some (.cells #[.slice A0 pk.length a0, .slice B0 pv.length b0, .bool pg] 96 (0, 0))) := by rw [hwq]; exact HB.out
          have HWq : Hid (Below w.heap.size w wq) := by rw [hwq]; exact below_drewN HW.out nq
          have HSQ : Hid (w.heap.size + 1 ≤ wq.heap.size) := Lib.hid (blk_lt HBq.out)
          have p0q : wq.cell? ⟨w.heap.size, 0, none⟩ = some (.slice A0 pk.length a0) := (blk_cell HBq.out 0).trans rfl
          have p1q : wq.cell? ⟨w.heap.size, 1, none⟩ = some (.slice B0 pv.length b0) := (blk_cell HBq.out 1).trans rfl
          have p2q : wq.cell? ⟨w.heap.size, 2, none⟩ = some (.bool pg) := (blk_cell HBq.out 2).trans rfl
          have x0q : wq.cell? ⟨bk, off + k * 3, none⟩ = some (.slice A1 xk.length a1) := by rw [hwq]; exact x0
          have x1q : wq.cell? ⟨bk, off + k * 3 + 1, none⟩ = some (.slice B1 xv.length b1) := by rw [hwq]; exact x1
          have x2q : wq.cell? ⟨bk, off + k * 3 + 2, none⟩ = some (.bool xg) := by rw [hwq]; exact x2
          clear hwq
          have HWA := Lib.hid (below_alloc HWq.out (.cells #[.slice A1 xk.length a1, .slice B1 xv.length b1, .bool xg] 96))
          have HX1 := Lib.hid (blk_new wq (.cells #[.slice A1 xk.length a1, .slice B1 xv.length b1, .bool xg] 96))
          have HOA := Lib.hid (HOq.out.below (below_alloc (Below.refl _ _) (.cells #[.slice A1 xk.length a1, .slice B1 xv.length b1, .bool xg] 96)))
          have HBA := Lib.hid (blk_alloc HBq.out (.cells #[.slice A1 xk.length a1, .slice B1 xv.length b1, .bool xg] 96))
          have HXA := Lib.hid (old_el HRX.out HWA.out HOA.out (Nat.le_succ _))
          go_wp2_with (at_builtin; refine push (E := SetE) 96 38 _ 56 rfl (.tmp 30) (.tmp 35) rfl Tryz.underlying38 info_set rfl (by decide) (by decide) (by decide) (.slice AM M.length cM) M (xk, xv, xg) ([Value.slice A1 xk.length a1, .slice B1 xv.length b1, .bool xg]) wq.heap.size 1 rfl rfl (HOA.out) HX1.out HXA.out (by have := HSQ.out; simp; omega) (by have := HML.out; omega) ?_ (fun _ h => h.elim); intro A3 c3 w3 o3 k3 n3; have O3 := Lib.hid o3; have W3 := Lib.hid (below_only HWA.out k3 (fun i hi => by have := (HOA.out).base_le hi; omega)); have B3 := Lib.hid (k3.blk HBA.out (fun h => by have := (HOA.out).base_le h; omega)); clear o3 k3 n3)
          go_roundg (n - (k + 1))
          case measure => omega
          case rel => exact ⟨k + 1, M ++ [(xk, xv, xg)], false, by omega, rfl, by go_num, rfl, HS, O3.out, B3.out, W3.out⟩

      · have hs := HST.out
        rw [layF_no (.inl rfl)] at hs
        have HS := Lib.hid hs
        clear hs
        go_wp2_with fail
        go_quiet (fail)
        obtain ⟨wq, hwq⟩ : ∃ W, W = wr.drewN nq := ⟨_, rfl⟩
        rw [← hwq]
        have HOq : Hid (OwnL SetE 96 wq (fun _ => False) (w.heap.size + 1) (.slice AM M.length cM) M) := by rw [hwq]; exact HO.out.drewN nq
        have HBq : Hid (wq.heap[w.heap.size]? = some (.cells #[.slice A0 pk.length a0, .slice B0 pv.length b0, .bool pg] 96 (0, 0))) := by rw [hwq]; exact HB.out
        have HWq : Hid (Below w.heap.size w wq) := by rw [hwq]; exact below_drewN HW.out nq
        have HSQ : Hid (w.heap.size + 1 ≤ wq.heap.size) := Lib.hid (blk_lt HBq.out)
        have p0q : wq.cell? ⟨w.heap.size, 0, none⟩ = some (.slice A0 pk.length a0) := (blk_cell HBq.out 0).trans rfl
        have p1q : wq.cell? ⟨w.heap.size, 1, none⟩ = some (.slice B0 pv.length b0) := (blk_cell HBq.out 1).trans rfl
        have p2q : wq.cell? ⟨w.heap.size, 2, none⟩ = some (.bool pg) := (blk_cell HBq.out 2).trans rfl
        have x0q : wq.cell? ⟨bk, off + k * 3, none⟩ = some (.slice A1 xk.length a1) := by rw [hwq]; exact x0
        have x1q : wq.cell? ⟨bk, off + k * 3 + 1, none⟩ = some (.slice B1 xv.length b1) := by rw [hwq]; exact x1
        have x2q : wq.cell? ⟨bk, off + k * 3 + 2, none⟩ = some (.bool xg) := by rw [hwq]; exact x2
        clear hwq
        have HWA := Lib.hid (below_alloc HWq.out (.cells #[.slice A1 xk.length a1, .slice B1 xv.length b1, .bool xg] 96))
        have HX1 := Lib.hid (blk_new wq (.cells #[.slice A1 xk.length a1, .slice B1 xv.length b1, .bool xg] 96))
        have HOA := Lib.hid (HOq.out.below (below_alloc (Below.refl _ _) (.cells #[.slice A1 xk.length a1, .slice B1 xv.length b1, .bool xg] 96)))
        have HBA := Lib.hid (blk_alloc HBq.out (.cells #[.slice A1 xk.length a1, .slice B1 xv.length b1, .bool xg] 96))
        have HXA := Lib.hid (old_el HRX.out HWA.out HOA.out (Nat.le_succ _))
        go_wp2_with (at_builtin; refine push (E := SetE) 96 38 _ 56 rfl (.tmp 30) (.tmp 35) rfl Tryz.underlying38 info_set rfl (by decide) (by decide) (by decide) (.slice AM M.length cM) M (xk, xv, xg) ([Value.slice A1 xk.length a1, .slice B1 xv.length b1, .bool xg]) wq.heap.size 1 rfl rfl (HOA.out) HX1.out HXA.out (by have := HSQ.out; simp; omega) (by have := HML.out; omega) ?_ (fun _ h => h.elim); intro A3 c3 w3 o3 k3 n3; have O3 := Lib.hid o3; have W3 := Lib.hid (below_only HWA.out k3 (fun i hi => by have := (HOA.out).base_le hi; omega)); have B3 := Lib.hid (k3.blk HBA.out (fun h => by have := (HOA.out).base_le h; omega)); clear o3 k3 n3)
        go_roundg (n - (k + 1))
        case measure => omega
        case rel => exact ⟨k + 1, M ++ [(xk, xv, xg)], true, by omega, rfl, by go_num, rfl, HS, O3.out, B3.out, W3.out⟩


    · obtain rfl : k = n := by omega
      have i1 : ¬ (k : Int) < (k : Int) := by omega
      have htk : l.take k = l := List.take_of_length_le (by rw [HN.out]; omega)
      have HM2 := HM.out
      rw [htk] at HM2
      cases b
      · have HRS : Hid (res = M ++ [(pk, pv, pg)]) := by rw [Hid, ← HG.out]; unfold layG; rw [HM2]; rfl
        have HWA := Lib.hid (below_alloc HW.out (.cells #[.slice A0 pk.length a0, .slice B0 pv.length b0, .bool pg] 96))
        have HX1 := Lib.hid (blk_new wr (.cells #[.slice A0 pk.length a0, .slice B0 pv.length b0, .bool pg] 96))
        have HOA := Lib.hid (HO.out.below (below_alloc (Below.refl _ _) (.cells #[.slice A0 pk.length a0, .slice B0 pv.length b0, .bool pg] 96)))
        have HPA := Lib.hid (old_el HP.out HWA.out HOA.out (Nat.le_succ _))
        clear htk HM2
        go_wp2_with (at_builtin; refine push (E := SetE) 96 38 _ 56 rfl (.tmp 39) (.tmp 41) rfl Tryz.underlying38 info_set rfl (by decide) (by decide) (by decide) (.slice AM M.length cM) M (pk, pv, pg) ([Value.slice A0 pk.length a0, .slice B0 pv.length b0, .bool pg]) wr.heap.size 1 rfl rfl HOA.out HX1.out HPA.out (by have := HSZ.out; simp; omega) (by have := HML.out; omega) ?_ (fun _ h => h.elim); intro A3 c3 w3 o3 k3 n3; have O3 := Lib.hid o3; have W3 := Lib.hid (below_only HWA.out k3 (fun i hi => by have := HOA.out.base_le hi; omega)); clear o3 k3 n3)
        go_ret
        have hO := O3.out
        rw [← HRS.out] at hO
        obtain ⟨A4, c4, e, h4⟩ := hO.lst (N := fun _ => False) (fun _ _ h => h)
        refine ⟨A4, c4, ?_, h4, W3.out⟩
        show Ending.returned (Value.slice A3 (M.length + 1) c3) = _
        rw [← e]
      · have HRS : Hid (res = M) := by rw [Hid, ← HG.out]; unfold layG; rw [HM2]; rfl
        clear htk HM2
        go_wp2_with fail
        go_ret
        obtain ⟨A4, c4, e, h4⟩ := HO.out.lst (N := fun _ => False) (fun _ _ h => h)
        rw [HRS.out]
        refine ⟨A4, c4, ?_, h4, HW.out⟩
        show Ending.returned (Value.slice AM M.length cM) = _
        rw [e]

end Go.Proofs.YtgbjhlkjceonpaaGreat.Lst
/- The walk of the document's rowsOf. -/
namespace Go.Proofs.YtgbjhlkjceonpaaGreat.Lst
open Go.RowKit Go.Proofs.YtgbjhlkjceonpaaGreat.K Go.Proofs.YtgbjhlkjceonpaaGreat.Help Go.Proofs.YtgbjhlkjceonpaaGreat.Pfx Go.Proofs.YtgbjhlkjceonpaaGreat.Peer
set_option linter.unusedVariables false

noncomputable def rowP (p : PeerD) : RowD := ((putPeer p).1, (putPeer p).2.1)
noncomputable def okP (p : PeerD) : Bool := (putPeer p).2.2 == 0
def rowL (d : LaneD) : RowD := ((putLane d).1, (putLane d).2.1)
def okL (d : LaneD) : Bool := (putLane d).2.2 == 0
noncomputable def rowsPL (ps : List PeerD) (ls : List LaneD) : List RowD := ps.map rowP ++ ls.map rowL
noncomputable def goodPL (ps : List PeerD) (ls : List LaneD) : Bool := ps.all okP && ls.all okL
def RetR (w : World) (l : List RowD) (b : Bool) (e : Ending) (w' : World) : Prop := ∃ A c, e = .returned (.tuple #[.slice A l.length c, .bool b]) ∧ Lst RowE w' (fun _ => False) A c l ∧ Below w.heap.size w w'
theorem take_map {α β : Type} (f : α → β) (z : α) (l : List α) (k : Nat) (hk : k < l.length) : (l.take (k + 1)).map f = (l.take k).map f ++ [f (l.getD k z)] := by
  have e : l.getD k z = l[k] := by simp [hk]
  rw [List.take_succ_eq_append_getElem hk, List.map_append, e]; rfl
theorem take_all {α : Type} (f : α → Bool) (z : α) (l : List α) (k : Nat) (hk : k < l.length) : (l.take (k + 1)).all f = ((l.take k).all f && f (l.getD k z)) := by
  have e : l.getD k z = l[k] := by simp [hk]
  rw [List.take_succ_eq_append_getElem hk, List.all_append, e, List.all_cons, List.all_nil, Bool.and_true]
theorem blk_two (w : World) (q1 q2 : Obj) : ((w.alloc q1).alloc q2).heap[w.heap.size + 1]? = some q2 := by
  have := blk_new (w.alloc q1) q2
  simpa using this
theorem fresh_row {W W2 : World} {A B : Option Addr} {a b : Nat} {k v : List UInt8} {N : Nat → Prop} (h1 : Bs W2 A a k) (h2 : Bs W2 B b v) (n1 : Nw W A) (n2 : Nw W B) (hv : ∀ i, N i → i < W.heap.size) :
    RowE.R W2 N [Value.slice A k.length a, .slice B v.length b] (k, v) := ⟨A, a, B, b, rfl, Bs.fresh h1 n1 hv, Bs.fresh h2 n2 hv⟩
set_option maxRecDepth 100000 in
set_option maxHeartbeats 4000000 in
theorem rowsOf_any (A B : Option Addr) (a b : Nat) (ps : List PeerD) (ls : List LaneD) (w : World) (hp : Lst PeerE w (fun _ => False) A a ps) (hq : Lst LaneE w (fun _ => False) B b ls) (hn : ps.length ≤ 1000) (hm : ls.length ≤ 1000) :
    Calls Tryz.prog 55 #[.slice A ps.length a, .slice B ls.length b] w (RetR w (rowsPL ps ls) (goodPL ps ls && !twiceB (rowsPL ps ls))) := by
  have HP := Lib.hid hp
  have HQ := Lib.hid hq
  have h1 := hp.le
  have h2 := hp.max
  have h3 := hq.le
  have h4 := hq.max
  clear hp hq
  generalize hr : (goodPL ps ls && !twiceB (rowsPL ps ls)) = res
  have HR := Lib.hid hr
  generalize hrr : rowsPL ps ls = rws at *
  have HRR := Lib.hid hrr
  clear hr hrr
  unfold goodPL at HR
  generalize hnn : ps.length = n at *
  have HN := Lib.hid hnn
  generalize hmm : ls.length = m at *
  have HM := Lib.hid hmm
  clear hnn hmm
  go_enter Tryz.func55, Tryz.ntmps55
  go_wp2_with fail
  go_loopg [8, 6, 7] n (fun gk i s6 s7 wr => ∃ (k : Nat) (g : Bool), k ≤ n ∧ gk = n - k ∧ i = .int .i64 (k : Int) ∧ s7 = .bool g ∧ Hid ((ps.take k).all okP = g) ∧ OwnL RowE 64 wr (fun _ => False) w.heap.size s6 ((ps.take k).map rowP) ∧ Below w.heap.size w wr)
  case atStart => exact ⟨0, true, by omega, rfl, rfl, rfl, rfl, OwnL.nil _ _ _ _ _, Below.refl _ _⟩
  case round =>
    obtain ⟨k, g, hk, rfl, rfl, rfl, HG, ho, hb⟩ := hrel
    have hlk : ((ps.take k).map rowP).length = k := by rw [List.length_map, List.length_take, HN.out]; omega
    obtain ⟨AM, cM, rfl⟩ := ho.slice
    have HO := Lib.hid ho
    have HW := Lib.hid hb
    clear ho hb
    by_cases hlt : k < n
    · have i1 : (k : Int) < (n : Int) := by omega
      have i0 : (0 : Int) ≤ (k : Int) := by omega
      have HT := Lib.hid (take_map rowP zeroPeer ps k (by rw [HN.out]; exact hlt))
      have HTA := Lib.hid (take_all okP zeroPeer ps k (by rw [HN.out]; exact hlt))
      rw [HG.out] at HTA
      obtain ⟨bk, off, A1, a1, B1, b1, rfl, hbk, c0, c1, c2, s1, s2⟩ := HP.out.peer k _ (getD_get zeroPeer (by rw [HN.out]; exact hlt))
      obtain ⟨x, hx⟩ : ∃ y, ps.getD k zeroPeer = y := ⟨_, rfl⟩
      rw [hx] at c0 c1 c2 s1 s2 HT HTA
      rw [show rowP x = ((putPeer x).1, (putPeer x).2.1) from rfl] at HT
      rw [show okP x = ((putPeer x).2.2 == 0) from rfl] at HTA
      have y0 : wr.cell? ⟨bk, off + k * 3, none⟩ = some (.int .i64 x.link) := (HW.out.cell (p := ⟨bk, _, none⟩) hbk).trans c0
      have y1 : wr.cell? ⟨bk, off + k * 3 + 1, none⟩ = some (.slice A1 x.key.length a1) := (HW.out.cell (p := ⟨bk, _, none⟩) hbk).trans c1
      have y2 : wr.cell? ⟨bk, off + k * 3 + 2, none⟩ = some (.slice B1 x.ps.length b1) := (HW.out.cell (p := ⟨bk, _, none⟩) hbk).trans c2
      have P := Lib.hid (refPutPeer_any A1 B1 a1 b1 x wr (s1.1.below HW.out) (s2.1.below HW.out))
      unfold peerV at P
      generalize hpp : putPeer x = pp at HT HTA P
      obtain ⟨pk, pv, pc⟩ := pp
      dsimp only at HT HTA P
      have HLK := Lib.hid hlk
      clear c0 c1 c2 s1 s2 hx hpp
      rw [hlk] at HO ⊢
      clear hlk
      go_wp2_with fail
      refine P.out.mono ?_
      rintro e w2 ⟨v1, v2, rfl, o1, o2, hb2⟩
      obtain ⟨A2, a2, rfl, t1⟩ := o1.bs
      obtain ⟨A3, a3, rfl, t2⟩ := o2.bs
      have n1 := Own.nw (w := wr) o1 (Nat.le_refl _)
      have n2 := Own.nw (w := wr) o2 (Nat.le_refl _)
      have hq1 := below_alloc hb2 (.cells #[.slice A2 pk.length a2, .slice A3 pv.length a3] 64)
      have hq2 := below_alloc hq1 (.cells #[.slice A2 pk.length a2, .slice A3 pv.length a3] 64)
      have hq0 := below_alloc (below_alloc (Below.refl w2.heap.size w2) (.cells #[.slice A2 pk.length a2, .slice A3 pv.length a3] 64)) (.cells #[.slice A2 pk.length a2, .slice A3 pv.length a3] 64)
      have p0 := (blk_cell (blk_new w2 (.cells #[.slice A2 pk.length a2, .slice A3 pv.length a3] 64)) 0).trans (b := some (Value.slice A2 pk.length a2)) rfl
      have p1 := (blk_cell (blk_new w2 (.cells #[.slice A2 pk.length a2, .slice A3 pv.length a3] 64)) 1).trans (b := some (Value.slice A3 pv.length a3)) rfl
      have HWA := Lib.hid (below_step HW.out hq2)
      have HX1 := Lib.hid (blk_two w2 (.cells #[.slice A2 pk.length a2, .slice A3 pv.length a3] 64) (.cells #[.slice A2 pk.length a2, .slice A3 pv.length a3] 64))
      have HOA := Lib.hid (HO.out.below hq2)
      have HXA := Lib.hid (fresh_row (W := wr) (k := pk) (v := pv) (N := fun i => (fun _ => False) i ∨ (Value.slice AM k cM).ownBlock = some i) (t1.below hq0) (t2.below hq0) n1 n2 (fun i hi => hi.elim False.elim (fun h => HO.out.lt h)))
      clear o1 o2 t1 t2 hb2 hq1 hq2 hq0 n1 n2
      cases g
      · go_wp2_with (at_builtin; refine push (E := RowE) 64 22 _ 48 rfl (.tmp 33) (.tmp 35) rfl Tryz.underlying22 info_row rfl (by decide) (by decide) (by decide) (.slice AM k cM) ((ps.take k).map rowP) (pk, pv) [Value.slice A2 pk.length a2, .slice A3 pv.length a3] (w2.heap.size + 1) 1 rfl rfl HOA.out HX1.out HXA.out HWA.out.size (by rw [HLK.out]; omega) ?_ (fun _ h => h.elim); intro A4 c4 w4 o4 k4 n4; rw [HLK.out] at o4 ⊢; rw [← HT.out] at o4; have O4 := Lib.hid o4; have W4 := Lib.hid (below_only HWA.out k4 (fun i hi => HOA.out.base_le hi)); clear o4 k4 n4)
        go_roundg (n - (k + 1))
        case measure => omega
        case rel => exact ⟨k + 1, false, by omega, rfl, by go_num, rfl, HTA.out.trans (by simp), O4.out, W4.out⟩
      · go_wp2_with (at_builtin; refine push (E := RowE) 64 22 _ 48 rfl (.tmp 33) (.tmp 35) rfl Tryz.underlying22 info_row rfl (by decide) (by decide) (by decide) (.slice AM k cM) ((ps.take k).map rowP) (pk, pv) [Value.slice A2 pk.length a2, .slice A3 pv.length a3] (w2.heap.size + 1) 1 rfl rfl HOA.out HX1.out HXA.out HWA.out.size (by rw [HLK.out]; omega) ?_ (fun _ h => h.elim); intro A4 c4 w4 o4 k4 n4; rw [HLK.out] at o4 ⊢; rw [← HT.out] at o4; have O4 := Lib.hid o4; have W4 := Lib.hid (below_only HWA.out k4 (fun i hi => HOA.out.base_le hi)); clear o4 k4 n4)
        go_roundg (n - (k + 1))
        case measure => omega
        case rel => exact ⟨k + 1, (pc == 0), by omega, rfl, by go_num, rfl, HTA.out.trans (by simp), O4.out, W4.out⟩
    · obtain rfl : k = n := by omega
      have i1 : ¬ (k : Int) < (k : Int) := by omega
      have htk : ps.take k = ps := List.take_of_length_le (by rw [HN.out]; omega)
      rw [hlk] at HO ⊢
      rw [htk] at HO HG
      rw [HG.out] at HR
      clear htk hlk HG
      go_wp2_with fail
      go_loopg [11, 6, 7] m (fun gk i s6 s7 wr => ∃ (j : Nat) (g2 : Bool), j ≤ m ∧ gk = m - j ∧ i = .int .i64 (j : Int) ∧ s7 = .bool g2 ∧ Hid ((g && (ls.take j).all okL) = g2) ∧ OwnL RowE 64 wr (fun _ => False) w.heap.size s6 (ps.map rowP ++ (ls.take j).map rowL) ∧ Below w.heap.size w wr)
      case atStart => exact ⟨0, g, by omega, rfl, rfl, rfl, by simp [Hid], by simpa using HO.out, HW.out⟩
      case round =>
        clear HO HW
        obtain ⟨j, g2, hj, rfl, rfl, rfl, HG2, ho, hb⟩ := hrel
        have hlk : (ps.map rowP ++ (ls.take j).map rowL).length = k + j := by rw [List.length_append, List.length_map, List.length_map, List.length_take, HN.out, HM.out]; omega
        obtain ⟨BM, dM, rfl⟩ := ho.slice
        have HO := Lib.hid ho
        have HV := Lib.hid hb
        clear ho hb
        by_cases hjt : j < m
        · have j1 : (j : Int) < (m : Int) := by omega
          have j0 : (0 : Int) ≤ (j : Int) := by omega
          have HT := Lib.hid (take_map rowL zeroLane ls j (by rw [HM.out]; exact hjt))
          have HTA := Lib.hid (take_all okL zeroLane ls j (by rw [HM.out]; exact hjt))
          obtain ⟨bk, off, A1, a1, rfl, hbk, c0, c1, c2, c3, c4, c5, c6, c7, s1, lb⟩ := HQ.out.lane j _ (getD_get zeroLane (by rw [HM.out]; exact hjt))
          obtain ⟨x, hx⟩ : ∃ y, ls.getD j zeroLane = y := ⟨_, rfl⟩
          rw [hx] at c0 c1 c2 c3 c4 c5 c6 c7 s1 lb HT HTA
          rw [show rowL x = ((putLane x).1, (putLane x).2.1) from rfl] at HT
          rw [show okL x = ((putLane x).2.2 == 0) from rfl] at HTA
          have y0 : wr.cell? ⟨bk, off + j * 8, none⟩ = some (.slice A1 x.key.length a1) := (HV.out.cell (p := ⟨bk, _, none⟩) hbk).trans c0
          have y1 : wr.cell? ⟨bk, off + j * 8 + 1, none⟩ = some (.int .i64 x.side) := (HV.out.cell (p := ⟨bk, _, none⟩) hbk).trans c1
          have y2 : wr.cell? ⟨bk, off + j * 8 + 2, none⟩ = some (.int .i64 x.cur) := (HV.out.cell (p := ⟨bk, _, none⟩) hbk).trans c2
          have y3 : wr.cell? ⟨bk, off + j * 8 + 3, none⟩ = some (.int .i64 x.next) := (HV.out.cell (p := ⟨bk, _, none⟩) hbk).trans c3
          have y4 : wr.cell? ⟨bk, off + j * 8 + 4, none⟩ = some (.int .u64 (x.sc : Int)) := (HV.out.cell (p := ⟨bk, _, none⟩) hbk).trans c4
          have y5 : wr.cell? ⟨bk, off + j * 8 + 5, none⟩ = some (.int .u64 (x.ceil : Int)) := (HV.out.cell (p := ⟨bk, _, none⟩) hbk).trans c5
          have y6 : wr.cell? ⟨bk, off + j * 8 + 6, none⟩ = some (.int .i64 x.sec) := (HV.out.cell (p := ⟨bk, _, none⟩) hbk).trans c6
          have y7 : wr.cell? ⟨bk, off + j * 8 + 7, none⟩ = some (.int .i64 x.nano) := (HV.out.cell (p := ⟨bk, _, none⟩) hbk).trans c7
          have P := Lib.hid (refPutLane_any A1 a1 x wr (s1.1.below HV.out) lb)
          unfold laneV at P
          generalize hpp : putLane x = pp at HT HTA P
          obtain ⟨pk, pv, pc⟩ := pp
          dsimp only at HT HTA P
          have HGN : Hid ((g && (ls.take (j + 1)).all okL) = (g2 && (pc == 0))) := by rw [Hid, HTA.out, ← HG2.out, Bool.and_assoc]
          have HLK := Lib.hid hlk
          clear c0 c1 c2 c3 c4 c5 c6 c7 s1 hx hpp lb HTA HG2
          rw [hlk] at HO ⊢
          clear hlk
          go_wp2_with fail
          refine P.out.mono ?_
          rintro e w2 ⟨v1, v2, rfl, o1, o2, hb2⟩
          obtain ⟨A2, a2, rfl, t1⟩ := o1.bs
          obtain ⟨A3, a3, rfl, t2⟩ := o2.bs
          have n1 := Own.nw (w := wr) o1 (Nat.le_refl _)
          have n2 := Own.nw (w := wr) o2 (Nat.le_refl _)
          have hq1 := below_alloc hb2 (.cells #[.slice A2 pk.length a2, .slice A3 pv.length a3] 64)
          have hq2 := below_alloc hq1 (.cells #[.slice A2 pk.length a2, .slice A3 pv.length a3] 64)
          have hq0 := below_alloc (below_alloc (Below.refl w2.heap.size w2) (.cells #[.slice A2 pk.length a2, .slice A3 pv.length a3] 64)) (.cells #[.slice A2 pk.length a2, .slice A3 pv.length a3] 64)
          have p0 := (blk_cell (blk_new w2 (.cells #[.slice A2 pk.length a2, .slice A3 pv.length a3] 64)) 0).trans (b := some (Value.slice A2 pk.length a2)) rfl
          have p1 := (blk_cell (blk_new w2 (.cells #[.slice A2 pk.length a2, .slice A3 pv.length a3] 64)) 1).trans (b := some (Value.slice A3 pv.length a3)) rfl
          have HWA := Lib.hid (below_step HV.out hq2)
          have HX1 := Lib.hid (blk_two w2 (.cells #[.slice A2 pk.length a2, .slice A3 pv.length a3] 64) (.cells #[.slice A2 pk.length a2, .slice A3 pv.length a3] 64))
          have HOA := Lib.hid (HO.out.below hq2)
          have HXA := Lib.hid (fresh_row (W := wr) (k := pk) (v := pv) (N := fun i => (fun _ => False) i ∨ (Value.slice BM (k + j) dM).ownBlock = some i) (t1.below hq0) (t2.below hq0) n1 n2 (fun i hi => hi.elim False.elim (fun h => HO.out.lt h)))
          clear o1 o2 t1 t2 hb2 hq1 hq2 hq0 n1 n2
          cases g2
          · go_wp2_with (at_builtin; refine push (E := RowE) 64 22 _ 48 rfl (.tmp 56) (.tmp 58) rfl Tryz.underlying22 info_row rfl (by decide) (by decide) (by decide) (.slice BM (k + j) dM) (ps.map rowP ++ (ls.take j).map rowL) (pk, pv) [Value.slice A2 pk.length a2, .slice A3 pv.length a3] (w2.heap.size + 1) 1 rfl rfl HOA.out HX1.out HXA.out HWA.out.size (by rw [HLK.out]; omega) ?_ (fun _ h => h.elim); intro A4 c4 w4 o4 k4 n4; rw [HLK.out] at o4 ⊢; rw [List.append_assoc, ← HT.out] at o4; have O4 := Lib.hid o4; have W4 := Lib.hid (below_only HWA.out k4 (fun i hi => HOA.out.base_le hi)); clear o4 k4 n4)
            go_roundg (m - (j + 1))
            case measure => omega
            case rel => exact ⟨j + 1, false, by omega, rfl, by go_num, rfl, HGN.out.trans (by simp), O4.out, W4.out⟩
          · go_wp2_with (at_builtin; refine push (E := RowE) 64 22 _ 48 rfl (.tmp 56) (.tmp 58) rfl Tryz.underlying22 info_row rfl (by decide) (by decide) (by decide) (.slice BM (k + j) dM) (ps.map rowP ++ (ls.take j).map rowL) (pk, pv) [Value.slice A2 pk.length a2, .slice A3 pv.length a3] (w2.heap.size + 1) 1 rfl rfl HOA.out HX1.out HXA.out HWA.out.size (by rw [HLK.out]; omega) ?_ (fun _ h => h.elim); intro A4 c4 w4 o4 k4 n4; rw [HLK.out] at o4 ⊢; rw [List.append_assoc, ← HT.out] at o4; have O4 := Lib.hid o4; have W4 := Lib.hid (below_only HWA.out k4 (fun i hi => HOA.out.base_le hi)); clear o4 k4 n4)
            go_roundg (m - (j + 1))
            case measure => omega
            case rel => exact ⟨j + 1, (pc == 0), by omega, rfl, by go_num, rfl, HGN.out.trans (by simp), O4.out, W4.out⟩
        · obtain rfl : j = m := by omega
          have j1 : ¬ (j : Int) < (j : Int) := by omega
          have htj : ls.take j = ls := List.take_of_length_le (by rw [HM.out]; omega)
          rw [hlk] at HO ⊢
          rw [htj] at HO HG2
          rw [show ps.map rowP ++ ls.map rowL = rws from HRR.out] at HO
          rw [HG2.out] at HR
          have hlr : rws.length = k + j := by rw [← HRR.out]; unfold rowsPL; rw [List.length_append, List.length_map, List.length_map, HN.out, HM.out]
          obtain ⟨A4, c4, e4, l4⟩ := HO.out.lst (N := fun _ => False) (fun _ _ h => h)
          rw [hlr] at e4
          cases e4
          have L4 := Lib.hid l4
          have HLR := Lib.hid hlr
          have T := Lib.hid (twice_any BM dM rws wr l4)
          rw [hlr] at T
          generalize twiceB rws = tw at *
          clear htj hlk HG2 l4 hlr
          cases g2
          · have HE : Hid (res = false) := by rw [Hid, ← HR.out]; simp
            go_wp2_with fail
            exact bodyPost_ret (v := .tuple #[.slice BM (k + j) dM, .bool false]) (by simp [results, Tryz.results55, go_sem]) rfl ⟨BM, dM, by rw [HE.out, HLR.out], L4.out, HV.out⟩
          · have HE : Hid (res = !tw) := by rw [Hid, ← HR.out]; simp
            go_wp2_with fail
            refine T.out.mono ?_
            rintro e w5 ⟨q, rfl, rfl⟩
            have L5 := Lib.hid (L4.out.drewN q)
            have W5 := Lib.hid (below_drewN HV.out q)
            generalize wr.drewN q = w5 at *
            go_wp2_with fail
            exact bodyPost_ret (v := .tuple #[.slice BM (k + j) dM, .bool (!tw)]) (by simp [results, Tryz.results55, go_sem]) rfl ⟨BM, dM, by rw [HE.out, HLR.out], L5.out, W5.out⟩
end Go.Proofs.YtgbjhlkjceonpaaGreat.Lst
/- The program's State answers what the document's State answers. -/
namespace Go.Proofs.YtgbjhlkjceonpaaGreat.Lst
open Go.RowKit Go.Proofs.YtgbjhlkjceonpaaGreat.K Go.Proofs.YtgbjhlkjceonpaaGreat.Help Go.Proofs.YtgbjhlkjceonpaaGreat.Pfx Go.Proofs.YtgbjhlkjceonpaaGreat.Peer
set_option linter.unusedVariables false

/-! the three kinds -/
noncomputable def gP (r : RowD) : Option PeerD := if (peerGet r.1 r.2).2 = 0 then some (peerGet r.1 r.2).1 else none
noncomputable def gL (r : RowD) : Option LaneD := if (laneGet r.1 r.2).2 = 0 then some (laneGet r.1 r.2).1 else none
noncomputable def gB (r : RowD) : Option Int := if (bootsGet r.1 r.2).2 = 0 then some (bootsGet r.1 r.2).1 else none
theorem peerGet_key {k v : List UInt8} (h : (peerGet k v).2 = 0) : k = 80 :: be 4 (peerGet k v).1.link.toNat ∧ 1 ≤ (peerGet k v).1.link ∧ (peerGet k v).1.link ≤ 4294967295 := by
  unfold peerGet at h ⊢
  split at h
  · rename_i hc
    rw [if_pos hc]
    by_cases ho : peerOk (peerRd k v)
    · rw [putPeer_ok ho] at hc
      exact ⟨hc.2.1.symm, ho.1.1, ho.1.2.1⟩
    · rw [putPeer_bad ho] at hc
      cases hc.1
  · cases h
theorem laneGet_key {k v : List UInt8} (h : (laneGet k v).2 = 0) : k = 76 :: (laneGet k v).1.key := by
  unfold laneGet at h ⊢
  split at h
  · rename_i hc
    rw [if_pos hc]
    by_cases ho : laneOk (laneRd k v)
    · rw [putLane_yes ho] at hc
      exact hc.2.1.symm
    · rw [putLane_no ho] at hc
      cases hc.1
  · cases h
theorem bootsGet_key {k v : List UInt8} (h : (bootsGet k v).2 = 0) : k = [66] := by
  unfold bootsGet at h
  split at h
  · rename_i hc
    unfold putBoots at hc
    split at hc
    · cases hc.1
    · exact hc.2.1.symm
  · cases h
theorem gP_key {r : RowD} {x : PeerD} (h : gP r = some x) : r.1 = 80 :: be 4 x.link.toNat ∧ 1 ≤ x.link ∧ x.link ≤ 4294967295 := by
  unfold gP at h
  split at h
  · rename_i hc
    injection h with h
    subst h
    exact peerGet_key hc
  · cases h
theorem gL_key {r : RowD} {x : LaneD} (h : gL r = some x) : r.1 = 76 :: x.key := by
  unfold gL at h
  split at h
  · rename_i hc
    injection h with h
    subst h
    exact laneGet_key hc
  · cases h
theorem gB_key {r : RowD} {x : Int} (h : gB r = some x) : r.1 = [66] := by
  unfold gB at h
  split at h
  · rename_i hc
    exact bootsGet_key hc
  · cases h
theorem gP_only {r : RowD} {x : PeerD} (h : gP r = some x) : gL r = none ∧ gB r = none := by
  have hk := (gP_key h).1
  constructor
  · cases e : gL r with
    | none => rfl
    | some y => rw [gL_key e] at hk; injection hk with hk; cases hk
  · cases e : gB r with
    | none => rfl
    | some y => rw [gB_key e] at hk; injection hk with hk; cases hk
theorem gL_only {r : RowD} {x : LaneD} (h : gL r = some x) : gB r = none := by
  have hk := gL_key h
  cases e : gB r with
  | none => rfl
  | some y => rw [gB_key e] at hk; injection hk with hk; cases hk
noncomputable def okR (r : RowD) : Bool := (gP r).isSome || (gL r).isSome || (gB r).isSome
/-- the document's fold -/
theorem fold_ref : ∀ (l : List RowD) (s : StD), l.foldl stepS s = ((l.filterMap gP).foldl (layG ltP) s.1, (l.filterMap gL).foldl (layG ltL) s.2.1, (l.filterMap gB).foldl (fun _ v => v) s.2.2.1, s.2.2.2 && l.all okR)
  | [], s => by simp
  | r :: t, s => by
    rw [List.foldl_cons, fold_ref t]
    cases hp : gP r with
    | some x =>
      have hs : stepS s r = (layG ltP s.1 x, s.2.1, s.2.2.1, s.2.2.2) := by
        unfold gP at hp
        split at hp
        · rename_i hc; injection hp with hp; subst hp; unfold stepS; rw [if_pos hc]
        · cases hp
      rw [hs]
      simp [hp, gP_only hp, okR]
    | none =>
      have hp0 : ¬ (peerGet r.1 r.2).2 = 0 := by intro hc; unfold gP at hp; rw [if_pos hc] at hp; cases hp
      cases hq : gL r with
      | some x =>
        have hs : stepS s r = (s.1, layG ltL s.2.1 x, s.2.2.1, s.2.2.2) := by
          unfold gL at hq
          split at hq
          · rename_i hc; injection hq with hq; subst hq; unfold stepS; rw [if_neg hp0, if_pos hc]
          · cases hq
        rw [hs]
        simp [hp, hq, gL_only hq, okR]
      | none =>
        have hq0 : ¬ (laneGet r.1 r.2).2 = 0 := by intro hc; unfold gL at hq; rw [if_pos hc] at hq; cases hq
        cases hb : gB r with
        | some x =>
          have hs : stepS s r = (s.1, s.2.1, x, s.2.2.2) := by
            unfold gB at hb
            split at hb
            · rename_i hc; injection hb with hb; subst hb; unfold stepS; rw [if_neg hp0, if_neg hq0, if_pos hc]
            · cases hb
          rw [hs]
          simp [hp, hq, hb, okR]
        | none =>
          have hb0 : ¬ (bootsGet r.1 r.2).2 = 0 := by intro hc; unfold gB at hb; rw [if_pos hc] at hb; cases hb
          have hs : stepS s r = (s.1, s.2.1, s.2.2.1, false) := by unfold stepS; rw [if_neg hp0, if_neg hq0, if_neg hb0]
          rw [hs]
          simp [hp, hq, hb, okR]
theorem gP_head {c : UInt8} {t v : List UInt8} (hc : c ≠ 80) : gP (c :: t, v) = none := by
  cases e : gP (c :: t, v) with
  | none => rfl
  | some x =>
    have h := (gP_key e).1
    have h2 : c = 80 := (List.cons.inj h).1
    exact absurd h2 hc
theorem gL_head {c : UInt8} {t v : List UInt8} (hc : c ≠ 76) : gL (c :: t, v) = none := by
  cases e : gL (c :: t, v) with
  | none => rfl
  | some x =>
    have h := gL_key e
    have h2 : c = 76 := (List.cons.inj h).1
    exact absurd h2 hc
theorem gB_head {c : UInt8} {t v : List UInt8} (hc : c ≠ 66) : gB (c :: t, v) = none := by
  cases e : gB (c :: t, v) with
  | none => rfl
  | some x =>
    have h := gB_key e
    have h2 : c = 66 := (List.cons.inj h).1
    exact absurd h2 hc
theorem g_nil (v : List UInt8) : gP ([], v) = none ∧ gL ([], v) = none ∧ gB ([], v) = none := by
  refine ⟨?_, ?_, ?_⟩
  · cases e : gP ([], v) with
    | none => rfl
    | some x => have h := (gP_key e).1; exact absurd h (by simp)
  · cases e : gL ([], v) with
    | none => rfl
    | some x => have h := gL_key e; exact absurd h (by simp)
  · cases e : gB ([], v) with
    | none => rfl
    | some x => have h := gB_key e; exact absurd h (by simp)
noncomputable def pick (s : T3) (a : Option PeerD) (b : Option LaneD) (c : Option Int) : Option T3 := match a with
    | some x => some (s.1 ++ [x], s.2.1, s.2.2)
    | none => match b with
      | some x => some (s.1, s.2.1 ++ [x], s.2.2)
      | none => match c with
        | some x => some (s.1, s.2.1, x)
        | none => none
theorem stepO_nil (s : T3) (v : List UInt8) : stepO s [] v = none := rfl
theorem stepO_cons (s : T3) (c : UInt8) (t v : List UInt8) : stepO s (c :: t) v = if c = 80 then (if (peerGet (c :: t) v).2 = 0 then some (s.1 ++ [(peerGet (c :: t) v).1], s.2.1, s.2.2) else none)
    else if c = 76 then (if (laneGet (c :: t) v).2 = 0 then some (s.1, s.2.1 ++ [(laneGet (c :: t) v).1], s.2.2) else none)
    else if c = 66 then (if (bootsGet (c :: t) v).2 = 0 then some (s.1, s.2.1, (bootsGet (c :: t) v).1) else none)
    else none := by
  rfl
/-- the program's step -/
theorem stepO_eq (s : T3) (r : RowD) : stepO s r.1 r.2 = pick s (gP r) (gL r) (gB r) := by
  obtain ⟨k, v⟩ := r
  rcases k with _ | ⟨c, t⟩
  · obtain ⟨h1, h2, h3⟩ := g_nil v
    rw [h1, h2, h3]
    exact stepO_nil s v
  · show stepO s (c :: t) v = _
    rw [stepO_cons]
    by_cases h80 : c = 80
    · rw [if_pos h80, gL_head (by rw [h80]; decide), gB_head (by rw [h80]; decide)]
      unfold gP
      generalize hg : peerGet (c :: t) v = pg
      by_cases hc : pg.2 = 0
      · rw [if_pos hc]
        rw [if_pos hc]
        rfl
      · rw [if_neg hc]
        rw [if_neg hc]
        rfl
    · rw [if_neg h80, gP_head h80]
      by_cases h76 : c = 76
      · rw [if_pos h76, gB_head (by rw [h76]; decide)]
        unfold gL
        generalize hg : laneGet (c :: t) v = pg
        by_cases hc : pg.2 = 0
        · rw [if_pos hc]
          rw [if_pos hc]
          rfl
        · rw [if_neg hc]
          rw [if_neg hc]
          rfl
      · rw [if_neg h76, gL_head h76]
        by_cases h66 : c = 66
        · rw [if_pos h66]
          unfold gB
          generalize hg : bootsGet (c :: t) v = pg
          by_cases hc : pg.2 = 0
          · rw [if_pos hc]
            rw [if_pos hc]
            rfl
          · rw [if_neg hc]
            rw [if_neg hc]
            rfl
        · rw [if_neg h66, gB_head h66]
          rfl
noncomputable def stepR (s : Option T3) (r : RowD) : Option T3 := match s with | none => none | some s => stepO s r.1 r.2
theorem stepR_none : ∀ l : List RowD, l.foldl stepR none = none
  | [] => rfl
  | r :: t => stepR_none t
theorem fold_prog : ∀ (l : List RowD) (s : T3), l.foldl stepR (some s) = if l.all okR = true then some (s.1 ++ l.filterMap gP, s.2.1 ++ l.filterMap gL, (l.filterMap gB).foldl (fun _ v => v) s.2.2) else none
  | [], s => by simp
  | r :: t, s => by
    rw [List.foldl_cons]
    have hs : stepR (some s) r = stepO s r.1 r.2 := rfl
    rw [hs, stepO_eq, List.all_cons]
    cases hp : gP r with
    | some x =>
      have ho : okR r = true := by unfold okR; rw [hp]; rfl
      unfold pick
      dsimp only
      rw [fold_prog t, ho, Bool.true_and]
      simp [hp, gP_only hp]
    | none =>
      cases hq : gL r with
      | some x =>
        have ho : okR r = true := by unfold okR; rw [hp, hq]; rfl
        unfold pick
        dsimp only
        rw [fold_prog t, ho, Bool.true_and]
        simp [hp, hq, gL_only hq]
      | none =>
        cases hb : gB r with
        | some x =>
          have ho : okR r = true := by unfold okR; rw [hp, hq, hb]; rfl
          unfold pick
          dsimp only
          rw [fold_prog t, ho, Bool.true_and]
          simp [hp, hq, hb]
        | none =>
          have ho : okR r = false := by unfold okR; rw [hp, hq, hb]; rfl
          unfold pick
          dsimp only
          rw [stepR_none, ho]
          simp
/-! insertion -/
def insG {α : Type} (lt : α → α → Bool) (p : α) : List α → List α
  | [] => [p]
  | x :: r => if lt p x then p :: x :: r else x :: insG lt p r
theorem layF_done {α : Type} (lt : α → α → Bool) (p : α) : ∀ (l acc : List α), l.foldl (layF lt p) (acc, true) = (acc ++ l, true)
  | [], acc => by simp
  | x :: r, acc => by
    rw [List.foldl_cons]
    have : layF lt p (acc, true) x = (acc ++ [x], true) := by simp [layF]
    rw [this, layF_done lt p r]
    simp
theorem layF_ins {α : Type} (lt : α → α → Bool) (p : α) : ∀ (l acc : List α), (if (l.foldl (layF lt p) (acc, false)).2 then (l.foldl (layF lt p) (acc, false)).1 else (l.foldl (layF lt p) (acc, false)).1 ++ [p]) = acc ++ insG lt p l
  | [], acc => by simp [insG]
  | x :: r, acc => by
    rw [List.foldl_cons]
    by_cases h : lt p x = true
    · have : layF lt p (acc, false) x = (acc ++ [p, x], true) := by simp [layF, h]
      rw [this, layF_done]
      simp [insG, h]
    · have : layF lt p (acc, false) x = (acc ++ [x], false) := by simp [layF, h]
      rw [this, layF_ins lt p r]
      simp [insG, h]
theorem layG_ins {α : Type} (lt : α → α → Bool) (l : List α) (p : α) : layG lt l p = insG lt p l := by
  have := layF_ins lt p l []
  unfold layG
  simpa using this
section
variable {α : Type} {lt : α → α → Bool}
theorem insG_perm (p : α) : ∀ l : List α, (insG lt p l).Perm (p :: l)
  | [] => by simp [insG]
  | x :: r => by
    unfold insG
    split
    · exact List.Perm.refl _
    · exact ((insG_perm p r).cons x).trans (List.Perm.swap p x r)
theorem insG_sorted (asym : ∀ a b, lt a b = true → lt b a = false) (tr : ∀ a b c, lt b a = false → lt c b = false → lt c a = false) (p : α) : ∀ l : List α, l.Pairwise (fun a b => lt b a = false) → (insG lt p l).Pairwise (fun a b => lt b a = false)
  | [], _ => by simp [insG]
  | x :: r, h => by
    obtain ⟨h1, h2⟩ := List.pairwise_cons.1 h
    unfold insG
    by_cases hp : lt p x = true
    · rw [if_pos hp]
      refine List.pairwise_cons.2 ⟨fun y hy => ?_, h⟩
      rcases List.mem_cons.1 hy with rfl | hy
      · exact asym _ _ hp
      · exact tr _ _ _ (asym _ _ hp) (h1 y hy)
    · rw [if_neg hp]
      refine List.pairwise_cons.2 ⟨fun y hy => ?_, insG_sorted asym tr p r h2⟩
      rcases List.mem_cons.1 ((insG_perm p r).mem_iff.1 hy) with rfl | hy
      · simpa using hp
      · exact h1 y hy
theorem fold_ins (asym : ∀ a b, lt a b = true → lt b a = false) (tr : ∀ a b c, lt b a = false → lt c b = false → lt c a = false) : ∀ (xs l : List α), l.Pairwise (fun a b => lt b a = false) → (xs.foldl (layG lt) l).Pairwise (fun a b => lt b a = false) ∧ (xs.foldl (layG lt) l).Perm (l ++ xs)
  | [], l, h => ⟨h, by simp⟩
  | x :: r, l, h => by
    rw [List.foldl_cons, layG_ins]
    obtain ⟨h1, h2⟩ := fold_ins asym tr r (insG lt x l) (insG_sorted asym tr x l h)
    refine ⟨h1, h2.trans ?_⟩
    exact ((insG_perm x l).append_right r).trans (List.perm_middle.symm)
end
theorem val_acc : ∀ (l : List UInt8) (x : Nat), l.foldl (fun x b => x * 256 + b.toNat) x = x * 256 ^ l.length + val l
  | [], x => by simp [val]
  | b :: t, x => by
    have h : val (b :: t) = t.foldl (fun x b => x * 256 + b.toNat) (0 * 256 + b.toNat) := rfl
    rw [h, List.foldl_cons, val_acc t, val_acc t, List.length_cons, Nat.pow_succ]
    have e : x * 256 * 256 ^ t.length = x * (256 ^ t.length * 256) := by rw [Nat.mul_assoc, Nat.mul_comm 256]
    rw [Nat.add_mul, e, Nat.zero_mul, Nat.zero_add, Nat.add_assoc]
theorem val_cons (x : UInt8) (l : List UInt8) : val (x :: l) = x.toNat * 256 ^ l.length + val l := by
  have h : val (x :: l) = l.foldl (fun x b => x * 256 + b.toNat) (0 * 256 + x.toNat) := rfl
  rw [h, val_acc]
  simp
theorem val_mono : ∀ (l m : List UInt8), l.length = m.length → val l < val m → l < m
  | [], [], _, h => by simp at h
  | [], _ :: _, h, _ => by simp at h
  | _ :: _, [], h, _ => by simp at h
  | x :: l, y :: m, hl, h => by
    rw [val_cons, val_cons] at h
    have hlen : l.length = m.length := by simpa using hl
    rw [hlen] at h
    have h1 := val_lt l
    have h2 := val_lt m
    rw [hlen] at h1
    rw [List.cons_lt_cons_iff]
    by_cases hxy : x = y
    · subst hxy
      exact .inr ⟨rfl, val_mono l m hlen (by omega)⟩
    · refine .inl ?_
      rw [UInt8.lt_iff_toNat_lt]
      have hne : x.toNat ≠ y.toNat := fun e => hxy (UInt8.toNat_inj.1 e)
      rcases Nat.lt_or_ge x.toNat y.toNat with hc | hc
      · exact hc
      exfalso
      have hlt : y.toNat + 1 ≤ x.toNat := by omega
      have h3 : (y.toNat + 1) * 256 ^ m.length ≤ x.toNat * 256 ^ m.length := Nat.mul_le_mul_right _ hlt
      rw [Nat.add_mul, Nat.one_mul] at h3
      omega
theorem lessB_iff : ∀ (l m : List UInt8), lessB l m = decide (l < m)
  | [], [] => by simp [lessB]
  | [], y :: m => by simp [lessB]
  | x :: l, [] => by simp [lessB]
  | x :: l, y :: m => by
    unfold lessB
    by_cases h : x = y
    · subst h
      rw [if_pos rfl, lessB_iff l m]
      simp [List.cons_lt_cons_iff]
    · rw [if_neg h]
      simp [List.cons_lt_cons_iff, h]
/-! the order of peers and of lanes -/
theorem ltP_asym (a b : PeerD) (h : ltP a b = true) : ltP b a = false := by unfold ltP at *; simp at *; omega
theorem ltP_tr (a b c : PeerD) (h1 : ltP b a = false) (h2 : ltP c b = false) : ltP c a = false := by unfold ltP at *; simp at *; omega
theorem ltL_asym (a b : LaneD) (h : ltL a b = true) : ltL b a = false := by
  unfold ltL at *
  rw [lessB_iff] at *
  simp at *
  exact List.le_of_lt h
theorem ltL_tr (a b c : LaneD) (h1 : ltL b a = false) (h2 : ltL c b = false) : ltL c a = false := by
  unfold ltL at *
  rw [lessB_iff] at *
  simp at *
  exact List.le_trans h1 h2
theorem be_inj {m n : Nat} (hm : m ≤ 4294967295) (hn : n ≤ 4294967295) (h : be 4 m = be 4 n) : m = n := by
  have := congrArg val h
  rw [val_be, val_be, Nat.mod_eq_of_lt (by omega), Nat.mod_eq_of_lt (by omega)] at this
  exact this
theorem ordP {r q : RowD} {x y : PeerD} (hx : gP r = some x) (hy : gP q = some y) (h : r.1 ≤ q.1) : ltP y x = false := by
  obtain ⟨k1, a1, b1⟩ := gP_key hx
  obtain ⟨k2, a2, b2⟩ := gP_key hy
  cases e : ltP y x with
  | false => rfl
  | true =>
    unfold ltP at e
    have hlt : y.link < x.link := by simpa using e
    exfalso
    apply h
    rw [k1, k2, List.cons_lt_cons_iff]
    refine .inr ⟨rfl, val_mono _ _ (by rw [be_len, be_len]) ?_⟩
    rw [val_be, val_be, Nat.mod_eq_of_lt (by omega), Nat.mod_eq_of_lt (by omega)]
    omega
theorem ordL {r q : RowD} {x y : LaneD} (hx : gL r = some x) (hy : gL q = some y) (h : r.1 ≤ q.1) : ltL y x = false := by
  have k1 := gL_key hx
  have k2 := gL_key hy
  cases e : ltL y x with
  | false => rfl
  | true =>
    unfold ltL at e
    rw [lessB_iff] at e
    exfalso
    apply h
    rw [k1, k2, List.cons_lt_cons_iff]
    exact .inr ⟨rfl, by simpa using e⟩
theorem one_row {l : List RowD} (hn : (l.map Prod.fst).Nodup) {r q : RowD} (hr : r ∈ l) (hq : q ∈ l) (h : r.1 = q.1) : r = q := by
  induction l with
  | nil => cases hr
  | cons x t ih =>
    rw [List.map_cons, List.nodup_cons] at hn
    rcases List.mem_cons.1 hr with e1 | hr2
    · rcases List.mem_cons.1 hq with e2 | hq2
      · rw [e1, e2]
      · exact absurd (List.mem_map.2 ⟨q, hq2, by rw [← h, e1]⟩) hn.1
    · rcases List.mem_cons.1 hq with e2 | hq2
      · exact absurd (List.mem_map.2 ⟨r, hr2, by rw [h, e2]⟩) hn.1
      · exact ih hn.2 hr2 hq2
theorem valOf_mem {l : List RowD} (hn : (l.map Prod.fst).Nodup) {r : RowD} (hr : r ∈ l) : valOf l r.1 = r.2 := by
  unfold valOf
  cases e : l.find? (fun q => q.1 == r.1) with
  | none => have := List.find?_eq_none.1 e r hr; simp at this
  | some q =>
    have h1 := List.find?_some e
    have h2 := List.mem_of_find?_eq_some e
    rw [one_row hn h2 hr (by simpa using h1)]
/-- the rows in the order of their keys -/
def rowsL (l : List RowD) : List RowD := (keysL l).map (fun k => (k, valOf l k))
theorem rowsL_perm {l : List RowD} (hn : (l.map Prod.fst).Nodup) : (rowsL l).Perm l := by
  have h1 : (rowsL l).Perm ((l.map Prod.fst).map (fun k => (k, valOf l k))) := (List.mergeSort_perm _ _).map _
  have h2 : (l.map Prod.fst).map (fun k => (k, valOf l k)) = l := by
    rw [List.map_map]
    conv => rhs; rw [← List.map_id l]
    apply List.map_congr_left
    intro r hr
    show (r.1, valOf l r.1) = r
    rw [valOf_mem hn hr]
  rw [h2] at h1
  exact h1
theorem rowsL_sorted (l : List RowD) : (rowsL l).Pairwise (fun r q => r.1 ≤ q.1) := by
  have tr : ∀ a b c : List UInt8, decide (a ≤ b) = true → decide (b ≤ c) = true → decide (a ≤ c) = true := fun a b c h1 h2 => by simp only [decide_eq_true_eq] at *; exact List.le_trans h1 h2
  have tot : ∀ a b : List UInt8, (decide (a ≤ b) || decide (b ≤ a)) = true := fun a b => by simp only [Bool.or_eq_true, decide_eq_true_eq]; exact List.le_total a b
  have h := List.pairwise_mergeSort tr tot (l.map Prod.fst)
  exact List.pairwise_map.2 (h.imp (fun h => by simpa using h))
theorem foldK_rows (l : List RowD) : foldK l = (rowsL l).foldl stepR (some ([], [], 0)) := by
  unfold foldK rowsL
  rw [List.foldl_map]
  rfl
theorem twice_nodup (l : List RowD) : twiceB l = false ↔ (l.map Prod.fst).Nodup := by
  unfold twiceB
  rw [decide_eq_false_iff_not, List.nodup_iff_pairwise_ne, List.pairwise_map, List.pairwise_iff_getElem]
  constructor
  · intro h i j hi hj hij e
    exact h ⟨j, hj, i, hij, by simpa [hi, hj] using e.symm⟩
  · rintro h ⟨i, hi, j, hij, e⟩
    refine h j i (by omega) hi hij ?_
    simpa [hi, show j < l.length by omega] using e.symm
theorem mem_fm {α : Type} {g : RowD → Option α} {l : List RowD} {x : α} (h : x ∈ l.filterMap g) : ∃ r, r ∈ l ∧ g r = some x := List.mem_filterMap.1 h
/-- both answer alike -/
theorem progState_eq (l : List RowD) : progState l = refState l := by
  unfold progState refState foldS
  rw [fold_ref]
  by_cases hn : (l.map Prod.fst).Nodup
  · rw [if_pos hn, (twice_nodup l).2 hn, foldK_rows, fold_prog]
    have hp := rowsL_perm hn
    have hso := rowsL_sorted l
    have hall : (rowsL l).all okR = l.all okR := by
      rw [Bool.eq_iff_iff, List.all_eq_true, List.all_eq_true]
      exact ⟨fun h x hx => h x (hp.mem_iff.2 hx), fun h x hx => h x (hp.mem_iff.1 hx)⟩
    rw [hall]
    dsimp only
    cases hok : l.all okR with
    | false => simp [ansK]
    | true =>
      have e1 : (l.filterMap gP).foldl (layG ltP) [] = (rowsL l).filterMap gP := by
        obtain ⟨s1, p1⟩ := fold_ins ltP_asym ltP_tr (l.filterMap gP) [] List.Pairwise.nil
        have s2 : ((rowsL l).filterMap gP).Pairwise (fun a b => ltP b a = false) := by
          rw [List.pairwise_filterMap]
          exact hso.imp (fun h a ha b hb => ordP ha hb h)
        refine List.Perm.eq_of_pairwise (le := fun a b => ltP b a = false) (fun a b ha hb h1 h2 => ?_) s1 s2 (p1.trans (by simpa using (hp.filterMap gP).symm))
        obtain ⟨r, hr, er⟩ := mem_fm (l := l) (by simpa using p1.mem_iff.1 ha)
        obtain ⟨q, hq, eq⟩ := mem_fm hb
        have hq := hp.mem_iff.1 hq
        have hl : a.link = b.link := by unfold ltP at h1 h2; simp at h1 h2; omega
        have hk : r.1 = q.1 := by rw [(gP_key er).1, (gP_key eq).1, hl]
        have := one_row hn hr hq hk
        rw [this, eq] at er
        injection er with er
        exact er.symm
      have e2 : (l.filterMap gL).foldl (layG ltL) [] = (rowsL l).filterMap gL := by
        obtain ⟨s1, p1⟩ := fold_ins ltL_asym ltL_tr (l.filterMap gL) [] List.Pairwise.nil
        have s2 : ((rowsL l).filterMap gL).Pairwise (fun a b => ltL b a = false) := by
          rw [List.pairwise_filterMap]
          exact hso.imp (fun h a ha b hb => ordL ha hb h)
        refine List.Perm.eq_of_pairwise (le := fun a b => ltL b a = false) (fun a b ha hb h1 h2 => ?_) s1 s2 (p1.trans (by simpa using (hp.filterMap gL).symm))
        obtain ⟨r, hr, er⟩ := mem_fm (l := l) (by simpa using p1.mem_iff.1 ha)
        obtain ⟨q, hq, eq⟩ := mem_fm hb
        have hq := hp.mem_iff.1 hq
        have hl : a.key = b.key := by
          unfold ltL at h1 h2
          rw [lessB_iff] at h1 h2
          simp at h1 h2
          exact List.le_antisymm h1 h2
        have hk : r.1 = q.1 := by rw [gL_key er, gL_key eq, hl]
        have := one_row hn hr hq hk
        rw [this, eq] at er
        injection er with er
        exact er.symm
      have e3 : (rowsL l).filterMap gB = l.filterMap gB := by
        have hone : ∀ (m : List Int), (∀ x ∈ m, x ∈ l.filterMap gB) → m.Pairwise (fun a b => a = b) := fun m hm => by
          rw [List.pairwise_iff_getElem]
          intro i j hi hj _
          obtain ⟨r, hr, er⟩ := mem_fm (hm _ (List.getElem_mem hi))
          obtain ⟨q, hq, eq⟩ := mem_fm (hm _ (List.getElem_mem hj))
          have := one_row hn hr hq (by rw [gB_key er, gB_key eq])
          rw [this, eq] at er
          injection er with er
          exact er.symm
        refine List.Perm.eq_of_pairwise (le := fun a b => a = b) (fun a b _ _ h1 _ => h1) (hone _ (fun x hx => (hp.filterMap gB).mem_iff.1 hx)) (hone _ (fun x hx => hx)) (hp.filterMap gB)
      rw [e1, e2, e3]
      simp [ansK]
  · rw [if_neg hn]
    have ht : twiceB l = true := by
      cases h : twiceB l with
      | true => rfl
      | false => exact absurd ((twice_nodup l).1 h) hn
    rw [ht]
    simp
end Go.Proofs.YtgbjhlkjceonpaaGreat.Lst
/- The walk of rows.state. -/
namespace Go.Proofs.YtgbjhlkjceonpaaGreat.Lst
open Go.RowKit Go.Proofs.YtgbjhlkjceonpaaGreat.K Go.Proofs.YtgbjhlkjceonpaaGreat.Help Go.Proofs.YtgbjhlkjceonpaaGreat.Pfx Go.Proofs.YtgbjhlkjceonpaaGreat.Peer
set_option linter.unusedVariables false

theorem GOf.below {w w' : World} {l : List RowD} {rs : List GRow} (h : GOf w l rs) (hb : Below w.heap.size w w') : GOf w' l rs := ⟨h.1, fun i x hx => by
  obtain ⟨B, b, e, s⟩ := h.2 i x hx
  exact ⟨B, b, e, s.below hb⟩⟩
theorem GMap.noU8 {w : World} {b : Nat} {rs : List GRow} (h : GMap w b rs) : NoU8 w b := by
  obtain ⟨⟨es, clock, hh, _⟩, _⟩ := h
  intro j x e
  simp [World.cell?, hh] at e
theorem GOf.only {w w' : World} {l : List RowD} {rs : List GRow} {b : Nat} (h : GOf w l rs) (k : Only w w' (fun i => i = b)) (hn : NoU8 w b) : GOf w' l rs := ⟨h.1, fun i x hx => by
  obtain ⟨B, c, e, s⟩ := h.2 i x hx
  exact ⟨B, c, e, bs_only s k (fun i hi _ => by rw [hi]; exact hn)⟩⟩
theorem dup_at {l : List RowD} {i : Nat} (hi : i < l.length) (h : (l.getD i zR).1 ∈ (l.take i).map Prod.fst) : twiceB l = true := by
  cases ht : twiceB l with
  | true => rfl
  | false =>
    have hn := (twice_nodup l).1 ht
    have e : l.getD i zR = l[i] := by simp [hi]
    rw [e] at h
    have h2 : (l.take (i + 1)).map Prod.fst = (l.take i).map Prod.fst ++ [l[i].1] := by rw [List.take_succ_eq_append_getElem hi, List.map_append]; rfl
    have h3 : ((l.take (i + 1)).map Prod.fst).Nodup := (hn.sublist ((List.take_sublist _ _).map _))
    rw [h2] at h3
    exact absurd rfl ((List.nodup_append.1 h3).2.2 _ h _ (by simp))
theorem rowsPL_p {ps : List PeerD} {ls : List LaneD} {k : Nat} (hk : k < ps.length) : (rowsPL ps ls).getD k zR = rowP (ps.getD k zeroPeer) := by
  unfold rowsPL
  have h1 : (ps.map rowP ++ ls.map rowL)[k]? = some (rowP ps[k]) := by rw [List.getElem?_append_left (by simpa using hk)]; simp [hk]
  rw [List.getD_eq_getElem?_getD, h1]
  simp [hk]
theorem rowsPL_l {ps : List PeerD} {ls : List LaneD} {j : Nat} (hj : j < ls.length) : (rowsPL ps ls).getD (ps.length + j) zR = rowL (ls.getD j zeroLane) := by
  unfold rowsPL
  have h1 : (ps.map rowP ++ ls.map rowL)[ps.length + j]? = some (rowL ls[j]) := by rw [List.getElem?_append_right (by simp)]; simp [hj]
  rw [List.getD_eq_getElem?_getD, h1]
  simp [hj]
theorem rowsPL_len (ps : List PeerD) (ls : List LaneD) : (rowsPL ps ls).length = ps.length + ls.length := by unfold rowsPL; simp
theorem take_row (l : List RowD) (k : Nat) (hk : k < l.length) : l.take (k + 1) = l.take k ++ [l.getD k zR] := by
  have e : l.getD k zR = l[k] := by simp [hk]
  rw [List.take_succ_eq_append_getElem hk, e]
theorem bad_p {ps : List PeerD} {ls : List LaneD} {k : Nat} (hk : k < ps.length) (h : okP (ps.getD k zeroPeer) = false) : goodPL ps ls = false := by
  unfold goodPL
  have : ps.all okP = false := by
    rw [List.all_eq_false]
    exact ⟨ps[k], List.getElem_mem hk, by have e : ps.getD k zeroPeer = ps[k] := by simp [hk]
                                          rw [e] at h; simp [h]⟩
  rw [this]; rfl
theorem bad_l {ps : List PeerD} {ls : List LaneD} {k : Nat} (hk : k < ls.length) (h : okL (ls.getD k zeroLane) = false) : goodPL ps ls = false := by
  unfold goodPL
  have : ls.all okL = false := by
    rw [List.all_eq_false]
    exact ⟨ls[k], List.getElem_mem hk, by have e : ls.getD k zeroLane = ls[k] := by simp [hk]
                                          rw [e] at h; simp [h]⟩
  rw [this, Bool.and_false]
def RetM (w : World) (rws : List RowD) (res : Bool) (e : Ending) (w' : World) : Prop :=
  Below w.heap.size w w' ∧ ((res = false ∧ e = .returned (.tuple #[.map none, .bool false])) ∨ (res = true ∧ ∃ b rs, e = .returned (.tuple #[.map (some b), .bool true]) ∧ w.heap.size ≤ b ∧ GMap w' b rs ∧ GOf w' rws rs))
end Go.Proofs.YtgbjhlkjceonpaaGreat.Lst
/- The walk of the document's Sets. -/
namespace Go.Proofs.YtgbjhlkjceonpaaGreat.Lst
open Go.RowKit Go.Proofs.YtgbjhlkjceonpaaGreat.K Go.Proofs.YtgbjhlkjceonpaaGreat.Help Go.Proofs.YtgbjhlkjceonpaaGreat.Pfx Go.Proofs.YtgbjhlkjceonpaaGreat.Peer
set_option linter.unusedVariables false

def stepA (was : List RowD) (s : List SetD) (r : RowD) : List SetD := if (hasK was r.1 && decide (valOf was r.1 = r.2)) = true then s else layG ltS s (r.1, r.2, false)
def stepB (is_ : List RowD) (s : List SetD) (r : RowD) : List SetD := if hasK is_ r.1 = true then s else layG ltS s (r.1, [], true)
abbrev QD := List SetD × Int
def setsOf (was is_ : List RowD) : List SetD := was.foldl (stepB is_) (is_.foldl (stepA was) [])
noncomputable def okPL (ps : List PeerD) (ls : List LaneD) : Bool := goodPL ps ls && !twiceB (rowsPL ps ls)
noncomputable def refSets (ps ps' : List PeerD) (ls ls' : List LaneD) : QD := if (okPL ps ls && okPL ps' ls') = true then (setsOf (rowsPL ps ls) (rowsPL ps' ls'), 0) else ([], 114)
def RetQ (w : World) (r : QD) (e : Ending) (w' : World) : Prop := ∃ A c, e = .returned (.tuple #[.slice A r.1.length c, .int .i64 r.2]) ∧ Lst SetE w' (fun _ => False) A c r.1 ∧ Below w.heap.size w w'
theorem take_fold {α β : Type} (f : β → α → β) (z : α) (s : β) (l : List α) (k : Nat) (hk : k < l.length) : (l.take (k + 1)).foldl f s = f ((l.take k).foldl f s) (l.getD k z) := by
  have e : l.getD k z = l[k] := by simp [hk]
  rw [List.take_succ_eq_append_getElem hk, List.foldl_append, e]; rfl
theorem stepA_len (was : List RowD) (s : List SetD) (r : RowD) : (stepA was s r).length ≤ s.length + 1 := by
  unfold stepA
  split
  · omega
  · rw [layG_len]; omega
theorem stepB_len (is_ : List RowD) (s : List SetD) (r : RowD) : (stepB is_ s r).length ≤ s.length + 1 := by
  unfold stepB
  split
  · omega
  · rw [layG_len]; omega
theorem set_rr {w : World} {A B : Option Addr} {a b : Nat} {k v : List UInt8} {g : Bool} (h1 : Bs w A a k) (h2 : Bs w B b v) : SetE.R w (fun _ => False) [Value.slice A k.length a, .slice B v.length b, .bool g] (k, v, g) := ⟨A, a, B, b, rfl, Bs.bsn h1, Bs.bsn h2⟩
set_option maxRecDepth 100000 in
set_option maxHeartbeats 4000000 in
theorem refSets_any (A A' B B' : Option Addr) (a a' b b' : Nat) (ps ps' : List PeerD) (ls ls' : List LaneD) (w : World) (hp : Lst PeerE w (fun _ => False) A a ps) (hp' : Lst PeerE w (fun _ => False) A' a' ps') (hq : Lst LaneE w (fun _ => False) B b ls) (hq' : Lst LaneE w (fun _ => False) B' b' ls')
    (hn : ps.length ≤ 100) (hn' : ps'.length ≤ 100) (hm : ls.length ≤ 100) (hm' : ls'.length ≤ 100) :
    Calls Tryz.prog 17 #[.slice A ps.length a, .slice A' ps'.length a', .slice B ls.length b, .slice B' ls'.length b'] w (RetQ w (refSets ps ps' ls ls')) := by
  have R1 := Lib.hid (rowsOf_any A B a b ps ls w hp hq (by omega) (by omega))
  have R2 := Lib.hid (fun W h h' => rowsOf_any A' B' a' b' ps' ls' W h h' (by omega) (by omega))
  have HP2 := Lib.hid hp'
  have HQ2 := Lib.hid hq'
  have L1 := Lib.hid (rowsPL_len ps ls)
  have L2 := Lib.hid (rowsPL_len ps' ls')
  rw [show (goodPL ps ls && !twiceB (rowsPL ps ls)) = okPL ps ls from rfl] at R1
  rw [show (goodPL ps' ls' && !twiceB (rowsPL ps' ls')) = okPL ps' ls' from rfl] at R2
  generalize hr : refSets ps ps' ls ls' = res
  have HR := Lib.hid hr
  clear hr hp hp' hq hq'
  unfold refSets at HR
  generalize rowsPL ps ls = was at *
  generalize rowsPL ps' ls' = is_ at *
  generalize okPL ps ls = g1 at *
  generalize okPL ps' ls' = g2 at *
  have LW : Hid (was.length ≤ 200) := by rw [Hid, L1.out]; omega
  have LI : Hid (is_.length ≤ 200) := by rw [Hid, L2.out]; omega
  clear L1 L2
  go_enter Tryz.func17, Tryz.ntmps17
  go_wp2_with fail
  refine R1.out.mono ?_
  rintro e w1 ⟨C1, d1, rfl, l1, hb1⟩
  have W1 := Lib.hid hb1
  have M1 := Lib.hid l1
  clear l1 hb1
  go_wp2_with fail
  refine (R2.out w1 (HP2.out.below W1.out) (HQ2.out.below W1.out)).mono ?_
  rintro e w2 ⟨C2, d2, rfl, l2, hb2⟩
  have W2 := Lib.hid (below_step W1.out hb2)
  have M2 := Lib.hid l2
  have M12 := Lib.hid (M1.out.below hb2)
  clear l2 hb2 M1 R1 R2 HP2 HQ2
  cases g1
  · have HE : Hid (res = ([], 114)) := by rw [Hid, ← HR.out]; rfl
    go_wp2_with fail
    exact bodyPost_ret (v := .tuple #[.slice none 0 0, .int .i64 114]) (by simp [results, Tryz.results17, go_sem]) rfl ⟨none, 0, by rw [HE.out]; rfl, by rw [HE.out]; exact Lst.nil _ _, W2.out⟩
  cases g2
  · have HE : Hid (res = ([], 114)) := by rw [Hid, ← HR.out]; rfl
    go_wp2_with fail
    exact bodyPost_ret (v := .tuple #[.slice none 0 0, .int .i64 114]) (by simp [results, Tryz.results17, go_sem]) rfl ⟨none, 0, by rw [HE.out]; rfl, by rw [HE.out]; exact Lst.nil _ _, W2.out⟩
  have HE : Hid (res = (was.foldl (stepB is_) (is_.foldl (stepA was) []), 0)) := by rw [Hid, ← HR.out]; rfl
  clear HR
  have m1 := M12.out.le
  have m2 := M12.out.max
  have m3 := M2.out.le
  have m4 := M2.out.max
  generalize hni : is_.length = ni at *
  have HNI := Lib.hid hni
  generalize hnw : was.length = nw at *
  have HNW := Lib.hid hnw
  clear hni hnw
  go_wp2_with fail
  go_loopg [15, 14] ni (fun gk i s14 wr => ∃ (k : Nat) (s : List SetD) (S : Option Addr) (sc : Nat), k ≤ ni ∧ gk = ni - k ∧ i = .int .i64 (k : Int) ∧ s14 = .slice S s.length sc ∧ Hid ((is_.take k).foldl (stepA was) [] = s) ∧ Hid (s.length ≤ k) ∧ Lst SetE wr (fun _ => False) S sc s ∧ Below w2.heap.size w2 wr)
  case atStart => exact ⟨0, [], none, 0, by omega, rfl, rfl, rfl, rfl, by simp [Hid], Lst.nil _ _, Below.refl _ _⟩
  case round =>
    obtain ⟨k, s, S, sc, hk, rfl, rfl, rfl, HS, HSL, hs, hb⟩ := hrel
    have HSS := Lib.hid hs
    have HW := Lib.hid hb
    clear hs hb
    by_cases hlt : k < ni
    · have i1 : (k : Int) < (ni : Int) := by omega
      have i0 : (0 : Int) ≤ (k : Int) := by omega
      have HST := Lib.hid (take_fold (stepA was) zR [] is_ k (by rw [HNI.out]; exact hlt))
      rw [HS.out] at HST
      obtain ⟨bk, off, A1, a1, B1, b1, rfl, hbk, c0, c1, s1, s2⟩ := M2.out.row k _ (getD_get zR (by rw [HNI.out]; exact hlt))
      obtain ⟨⟨xk, xv⟩, hx⟩ : ∃ y, is_.getD k zR = y := ⟨_, rfl⟩
      rw [hx] at c0 c1 s1 s2 HST
      dsimp only at c0 c1 s1 s2
      rw [show stepA was s (xk, xv) = if (hasK was xk && decide (valOf was xk = xv)) = true then s else layG ltS s (xk, xv, false) from rfl] at HST
      have y0 : wr.cell? ⟨bk, off + k * 2, none⟩ = some (.slice A1 xk.length a1) := (HW.out.cell (p := ⟨bk, _, none⟩) hbk).trans c0
      have C0 := Lib.hid c0
      have C1' := Lib.hid c1
      have HBK := Lib.hid hbk
      have S1 := Lib.hid s1.1
      have S2 := Lib.hid s2.1
      have F := Lib.hid (find_any C1 d1 was A1 a1 xk wr (M12.out.below HW.out) (s1.1.below HW.out))
      rw [HNW.out] at F
      unfold RetF at F
      have SB := Lib.hid (fun VB vb W h h' => sameBytes VB B1 vb b1 (valOf was xk) xv W h h')
      generalize hasK was xk = ht at *
      generalize valOf was xk = hv at *
      generalize decide (hv = xv) = hs2 at *
      clear c0 c1 s1 s2 hx hbk
      go_wp2_with fail
      refine F.out.mono ?_
      rintro e w3 ⟨VB, vb, rfl, v3, hb3⟩
      have W3 := Lib.hid (below_step HW.out hb3)
      have SS3 := Lib.hid (HSS.out.below hb3)
      have V3 := Lib.hid v3
      have y1 : w3.cell? ⟨bk, off + k * 2 + 1, none⟩ = some (.slice B1 xv.length b1) := (W3.out.cell (p := ⟨bk, _, none⟩) HBK.out).trans C1'.out
      clear v3 hb3
      go_wp2_with fail
      refine (SB.out VB vb w3 V3.out (S2.out.below W3.out)).mono ?_
      rintro e w4 ⟨q, rfl, rfl⟩
      have W4 := Lib.hid (below_drewN W3.out q)
      have SS4 := Lib.hid (SS3.out.drewN q)
      generalize w3.drewN q = w4 at *
      have LB := Lib.hid (stepA_len was s (xk, xv))
      clear y0 y1
      have z0 : w4.cell? ⟨bk, off + k * 2, none⟩ = some (.slice A1 xk.length a1) := (W4.out.cell (p := ⟨bk, _, none⟩) HBK.out).trans C0.out
      have z1 : w4.cell? ⟨bk, off + k * 2 + 1, none⟩ = some (.slice B1 xv.length b1) := (W4.out.cell (p := ⟨bk, _, none⟩) HBK.out).trans C1'.out
      cases ht
      · skip
        have HSX : Hid ((is_.take (k + 1)).foldl (stepA was) [] = layG ltS s (xk, xv, false)) := by rw [Hid, HST.out]; rfl
        have HSN := Lib.hid (layG_len ltS s (xk, xv, false))
        go_wp2_with fail
        go_region_held3 (fun w' => w'.cell? ⟨bk, off + k * 2, none⟩ = some (.slice A1 xk.length a1) ∧ w'.cell? ⟨bk, off + k * 2 + 1, none⟩ = some (.slice B1 xv.length b1)) (first | go_keep | exact ⟨g0, g1⟩ | exact ⟨f0, f1⟩ | exact ⟨e0, e1⟩)
          (first
          | (go_at_call 58; refine (laySet_any S sc s A2 a2 A3 a3 (xk, xv, false) _ (by first | exact SS6.out | exact SS6.out.drewN _) (by first | exact set_rr T26.out T3.out | exact set_rr (T26.out.drewN _) (T3.out.drewN _)) (by have := HSL.out; have := LI.out; omega)).mono ?_; rintro e w7 ⟨A4, a4, rfl, l7, hb7⟩; have SS7 := Lib.hid l7; have W7 := Lib.hid (below_step (by first | exact W6.out | exact below_drewN W6.out _) hb7); have g0 : w7.cell? ⟨bk, off + k * 2, none⟩ = some (.slice A1 xk.length a1) := (W7.out.cell (p := ⟨bk, _, none⟩) HBK.out).trans C0.out; have g1 : w7.cell? ⟨bk, off + k * 2 + 1, none⟩ = some (.slice B1 xv.length b1) := (W7.out.cell (p := ⟨bk, _, none⟩) HBK.out).trans C1'.out; clear l7 hb7)
          | (go_at_call_of 34 (Value.slice B1 xv.length b1); refine (Help.bytes B1 b1 xv _ (S2.out.below (by first | exact W5.out | exact below_drewN W5.out _))).mono ?_; rintro e w6 ⟨v6, rfl, o6, hb6⟩; obtain ⟨A3, a3, rfl, t3⟩ := o6.bs; have T3 := Lib.hid t3; have W6 := Lib.hid (below_step (by first | exact W5.out | exact below_drewN W5.out _) hb6); have SS6 := Lib.hid (Lst.below (by first | exact SS5.out | exact SS5.out.drewN _) hb6); have T26 := Lib.hid (Bs.below (by first | exact T2.out | exact T2.out.drewN _) hb6); have f0 : w6.cell? ⟨bk, off + k * 2, none⟩ = some (.slice A1 xk.length a1) := (W6.out.cell (p := ⟨bk, _, none⟩) HBK.out).trans C0.out; have f1 : w6.cell? ⟨bk, off + k * 2 + 1, none⟩ = some (.slice B1 xv.length b1) := (W6.out.cell (p := ⟨bk, _, none⟩) HBK.out).trans C1'.out; clear o6 hb6 t3)
          | (go_at_call_of 34 (Value.slice A1 xk.length a1); refine (Help.bytes A1 a1 xk _ (S1.out.below (by first | exact W4.out | exact below_drewN W4.out _))).mono ?_; rintro e w5 ⟨v5, rfl, o5, hb5⟩; obtain ⟨A2, a2, rfl, t2⟩ := o5.bs; have T2 := Lib.hid t2; have W5 := Lib.hid (below_step (by first | exact W4.out | exact below_drewN W4.out _) hb5); have SS5 := Lib.hid (Lst.below (by first | exact SS4.out | exact SS4.out.drewN _) hb5); have e0 : w5.cell? ⟨bk, off + k * 2, none⟩ = some (.slice A1 xk.length a1) := (W5.out.cell (p := ⟨bk, _, none⟩) HBK.out).trans C0.out; have e1 : w5.cell? ⟨bk, off + k * 2 + 1, none⟩ = some (.slice B1 xv.length b1) := (W5.out.cell (p := ⟨bk, _, none⟩) HBK.out).trans C1'.out; clear o5 hb5 t2))
        go_wp2_with fail
        go_roundg (ni - (k + 1))
        case measure => omega
        case rel => exact ⟨k + 1, _, A4, a4, by omega, rfl, by go_num, rfl, HSX.out, by have := HSN.out; have := HSL.out; rw [Hid]; omega, by first | exact SS7.out | exact SS7.out.drewN _, by first | exact W7.out | exact below_drewN W7.out _⟩
      · cases hs2
        · skip
          have HSX : Hid ((is_.take (k + 1)).foldl (stepA was) [] = layG ltS s (xk, xv, false)) := by rw [Hid, HST.out]; rfl
          have HSN := Lib.hid (layG_len ltS s (xk, xv, false))
          go_wp2_with fail
          go_region_held3 (fun w' => w'.cell? ⟨bk, off + k * 2, none⟩ = some (.slice A1 xk.length a1) ∧ w'.cell? ⟨bk, off + k * 2 + 1, none⟩ = some (.slice B1 xv.length b1)) (first | go_keep | exact ⟨g0, g1⟩ | exact ⟨f0, f1⟩ | exact ⟨e0, e1⟩)
            (first
            | (go_at_call 58; refine (laySet_any S sc s A2 a2 A3 a3 (xk, xv, false) _ (by first | exact SS6.out | exact SS6.out.drewN _) (by first | exact set_rr T26.out T3.out | exact set_rr (T26.out.drewN _) (T3.out.drewN _)) (by have := HSL.out; have := LI.out; omega)).mono ?_; rintro e w7 ⟨A4, a4, rfl, l7, hb7⟩; have SS7 := Lib.hid l7; have W7 := Lib.hid (below_step (by first | exact W6.out | exact below_drewN W6.out _) hb7); have g0 : w7.cell? ⟨bk, off + k * 2, none⟩ = some (.slice A1 xk.length a1) := (W7.out.cell (p := ⟨bk, _, none⟩) HBK.out).trans C0.out; have g1 : w7.cell? ⟨bk, off + k * 2 + 1, none⟩ = some (.slice B1 xv.length b1) := (W7.out.cell (p := ⟨bk, _, none⟩) HBK.out).trans C1'.out; clear l7 hb7)
            | (go_at_call_of 34 (Value.slice B1 xv.length b1); refine (Help.bytes B1 b1 xv _ (S2.out.below (by first | exact W5.out | exact below_drewN W5.out _))).mono ?_; rintro e w6 ⟨v6, rfl, o6, hb6⟩; obtain ⟨A3, a3, rfl, t3⟩ := o6.bs; have T3 := Lib.hid t3; have W6 := Lib.hid (below_step (by first | exact W5.out | exact below_drewN W5.out _) hb6); have SS6 := Lib.hid (Lst.below (by first | exact SS5.out | exact SS5.out.drewN _) hb6); have T26 := Lib.hid (Bs.below (by first | exact T2.out | exact T2.out.drewN _) hb6); have f0 : w6.cell? ⟨bk, off + k * 2, none⟩ = some (.slice A1 xk.length a1) := (W6.out.cell (p := ⟨bk, _, none⟩) HBK.out).trans C0.out; have f1 : w6.cell? ⟨bk, off + k * 2 + 1, none⟩ = some (.slice B1 xv.length b1) := (W6.out.cell (p := ⟨bk, _, none⟩) HBK.out).trans C1'.out; clear o6 hb6 t3)
            | (go_at_call_of 34 (Value.slice A1 xk.length a1); refine (Help.bytes A1 a1 xk _ (S1.out.below (by first | exact W4.out | exact below_drewN W4.out _))).mono ?_; rintro e w5 ⟨v5, rfl, o5, hb5⟩; obtain ⟨A2, a2, rfl, t2⟩ := o5.bs; have T2 := Lib.hid t2; have W5 := Lib.hid (below_step (by first | exact W4.out | exact below_drewN W4.out _) hb5); have SS5 := Lib.hid (Lst.below (by first | exact SS4.out | exact SS4.out.drewN _) hb5); have e0 : w5.cell? ⟨bk, off + k * 2, none⟩ = some (.slice A1 xk.length a1) := (W5.out.cell (p := ⟨bk, _, none⟩) HBK.out).trans C0.out; have e1 : w5.cell? ⟨bk, off + k * 2 + 1, none⟩ = some (.slice B1 xv.length b1) := (W5.out.cell (p := ⟨bk, _, none⟩) HBK.out).trans C1'.out; clear o5 hb5 t2))
          go_wp2_with fail
          go_roundg (ni - (k + 1))
          case measure => omega
          case rel => exact ⟨k + 1, _, A4, a4, by omega, rfl, by go_num, rfl, HSX.out, by have := HSN.out; have := HSL.out; rw [Hid]; omega, by first | exact SS7.out | exact SS7.out.drewN _, by first | exact W7.out | exact below_drewN W7.out _⟩
        · have HSX : Hid ((is_.take (k + 1)).foldl (stepA was) [] = s) := by rw [Hid, HST.out]; rfl
          go_wp2_with fail
          go_roundg (ni - (k + 1))
          case measure => omega
          case rel => exact ⟨k + 1, s, S, sc, by omega, rfl, by go_num, rfl, HSX.out, by have := HSL.out; rw [Hid]; omega, SS4.out, W4.out⟩
    · obtain rfl : k = ni := by omega
      have i1 : ¬ (k : Int) < (k : Int) := by omega
      have HSA : Hid (is_.foldl (stepA was) [] = s) := by have := HS.out; rw [List.take_of_length_le (by rw [HNI.out]; omega)] at this; exact this
      rw [HSA.out] at HE
      clear HS HSA
      go_wp2_with fail
      go_loopg [19, 14] nw (fun gk i s14 wr => ∃ (j : Nat) (s2 : List SetD) (S : Option Addr) (sc : Nat), j ≤ nw ∧ gk = nw - j ∧ i = .int .i64 (j : Int) ∧ s14 = .slice S s2.length sc ∧ Hid ((was.take j).foldl (stepB is_) s = s2) ∧ Hid (s2.length ≤ k + j) ∧ Hid (Lst SetE wr (fun _ => False) S sc s2) ∧ Hid (Below w2.heap.size w2 wr))
      case atStart => exact ⟨0, s, S, sc, by omega, rfl, rfl, rfl, rfl, by have := HSL.out; rw [Hid]; omega, HSS, HW⟩
      case round =>
        clear HSS HW HSL
        obtain ⟨j, s2, S2, sc2, hj, rfl, rfl, rfl, HS, HSL, HSS, HW⟩ := hrel
        by_cases hjt : j < nw
        · have j1 : (j : Int) < (nw : Int) := by omega
          have j0 : (0 : Int) ≤ (j : Int) := by omega
          have HST := Lib.hid (take_fold (stepB is_) zR s was j (by rw [HNW.out]; exact hjt))
          rw [HS.out] at HST
          obtain ⟨bk, off, A1, a1, B1, b1, rfl, hbk, c0, c1, s1, s3⟩ := M12.out.row j _ (getD_get zR (by rw [HNW.out]; exact hjt))
          obtain ⟨⟨xk, xv⟩, hx⟩ : ∃ y, was.getD j zR = y := ⟨_, rfl⟩
          rw [hx] at c0 c1 s1 s3 HST
          dsimp only at c0 c1 s1 s3
          rw [show stepB is_ s2 (xk, xv) = if hasK is_ xk = true then s2 else layG ltS s2 (xk, [], true) from rfl] at HST
          have y0 : wr.cell? ⟨bk, off + j * 2, none⟩ = some (.slice A1 xk.length a1) := (HW.out.cell (p := ⟨bk, _, none⟩) hbk).trans c0
          have C0 := Lib.hid c0
          have HBK := Lib.hid hbk
          have S1 := Lib.hid s1.1
          have F := Lib.hid (find_any C2 d2 is_ A1 a1 xk wr (M2.out.below HW.out) (s1.1.below HW.out))
          rw [HNI.out] at F
          unfold RetF at F
          generalize hasK is_ xk = ht at *
          generalize valOf is_ xk = hv at *
          clear c0 c1 s1 s3 hx hbk
          go_wp2_with fail
          refine F.out.mono ?_
          rintro e w3 ⟨VB, vb, rfl, v3, hb3⟩
          have W3 := Lib.hid (below_step HW.out hb3)
          have SS3 := Lib.hid (HSS.out.below hb3)
          have z0 : w3.cell? ⟨bk, off + j * 2, none⟩ = some (.slice A1 xk.length a1) := (W3.out.cell (p := ⟨bk, _, none⟩) HBK.out).trans C0.out
          clear v3 hb3 y0
          cases ht
          · have HSX : Hid ((was.take (j + 1)).foldl (stepB is_) s = layG ltS s2 (xk, [], true)) := by rw [Hid, HST.out]; rfl
            have HSN := Lib.hid (layG_len ltS s2 (xk, [], true))
            go_wp2_with fail
            refine (Help.bytes A1 a1 xk _ (S1.out.below W3.out)).mono ?_
            rintro e w5 ⟨v5, rfl, o5, hb5⟩
            obtain ⟨A2, a2, rfl, t2⟩ := o5.bs
            have W5 := Lib.hid (below_step W3.out hb5)
            have LS := Lib.hid (laySet_any S2 sc2 s2 A2 a2 none 0 (xk, [], true) w5 (SS3.out.below hb5) (set_rr t2 (Bs.nil _ _ _)) (by have := HSL.out; have := LI.out; have := LW.out; omega))
            clear o5 hb5 t2
            go_wp2_with fail
            refine LS.out.mono ?_
            rintro e w7 ⟨A4, a4, rfl, l7, hb7⟩
            have SS7 := Lib.hid l7
            have W7 := Lib.hid (below_step W5.out hb7)
            clear l7 hb7
            go_wp2_with fail
            go_roundg (nw - (j + 1))
            case measure => omega
            case rel => exact ⟨j + 1, _, A4, a4, by omega, rfl, by go_num, rfl, HSX.out, by have := HSN.out; have := HSL.out; rw [Hid]; omega, SS7, W7⟩
          · have HSX : Hid ((was.take (j + 1)).foldl (stepB is_) s = s2) := by rw [Hid, HST.out]; rfl
            go_wp2_with fail
            go_roundg (nw - (j + 1))
            case measure => omega
            case rel => exact ⟨j + 1, s2, S2, sc2, by omega, rfl, by go_num, rfl, HSX.out, by have := HSL.out; rw [Hid]; omega, SS3, W3⟩
        · obtain rfl : j = nw := by omega
          have j1 : ¬ (j : Int) < (j : Int) := by omega
          have HSB : Hid (res = (s2, 0)) := by have := HS.out; rw [List.take_of_length_le (by rw [HNW.out]; omega)] at this; rw [Hid, HE.out, this]
          have W9 := Lib.hid (below_step W2.out HW.out)
          clear HS HE
          go_wp2_with fail
          exact bodyPost_ret (v := .tuple #[.slice S2 s2.length sc2, .int .i64 0]) (by simp [results, Tryz.results17, go_sem]) rfl ⟨S2, sc2, by rw [HSB.out], by rw [HSB.out]; exact HSS.out, W9.out⟩
end Go.Proofs.YtgbjhlkjceonpaaGreat.Lst
/- bytes.Compare. -/
namespace Go.Proofs.YtgbjhlkjceonpaaGreat.Lst
open Go.RowKit Go.Proofs.YtgbjhlkjceonpaaGreat.K Go.Proofs.YtgbjhlkjceonpaaGreat.Help Go.Proofs.YtgbjhlkjceonpaaGreat.Pfx Go.Proofs.YtgbjhlkjceonpaaGreat.Peer
set_option linter.unusedVariables false

theorem bytesOf_map (l : List UInt8) : Lib.bytesOf (l.map (fun b => (b.toNat : Int))) = l := by
  induction l with
  | nil => rfl
  | cons x t ih =>
    unfold Lib.bytesOf at ih ⊢
    simp only [List.map_cons, List.map_map] at ih ⊢
    rw [ih]
    simp
theorem bytesOf_bs {w : World} {A : Option Addr} {c : Nat} {l : List UInt8} (h : Bs w A c l) : (Extern.Bytes.bytesOf (.slice A l.length c)).run Tryz.prog w = .ok ⟨l.toArray⟩ w := by
  rcases A with _ | ad
  · have h0 : l = [] := by
      rcases l with _ | ⟨x, r⟩
      · rfl
      · obtain ⟨ad, h', _⟩ := h.at_ 0 (by simp)
        cases h'
    subst h0
    simp [Extern.Bytes.bytesOf]
    rfl
  · have hl := Lib.run_loadBytesX (P := Tryz.prog) w (l.map (fun b => (b.toNat : Int))) ad .empty (fun j x hj => by
      rw [List.getElem?_map] at hj
      obtain ⟨b, hb, rfl⟩ := Option.map_eq_some_iff.1 hj
      have hjl := (List.getElem?_eq_some_iff.1 hb).1
      obtain ⟨ad', e, _, hc⟩ := h.at_ j hjl
      cases e
      rw [hc, List.getD_eq_getElem?_getD, hb]
      rfl)
    rw [List.length_map, bytesOf_map] at hl
    simp only [Extern.Bytes.bytesOf]
    rw [hl]
    congr 1
    apply ByteArray.ext
    simp
theorem run_cmp (A B : Option Addr) (c d : Nat) (l m : List UInt8) (w : World) (ha : Bs w A c l) (hb : Bs w B d m) :
    (Extern.BytealgCompare.compare #[.slice A l.length c, .slice B m.length d]).run Tryz.prog w = .ok (.int .i64 (Lib.compareBytes l m)) w := by
  change Sem.run Tryz.prog (do pure (goInt (Extern.BytealgCompare.cmp (← Extern.Bytes.bytesOf (.slice A l.length c)) (← Extern.Bytes.bytesOf (.slice B m.length d))))) w = _
  simp only [Sem.run_bind, Sem.run_pure, bytesOf_bs ha, bytesOf_bs hb, Result.andThen]
  rw [Lib.cmp_eq]
  rfl
set_option maxRecDepth 100000 in
theorem bytesCompare (A B : Option Addr) (c d : Nat) (l m : List UInt8) (w : World) (ha : Bs w A c l) (hb : Bs w B d m) :
    Calls Tryz.prog 52 #[.slice A l.length c, .slice B m.length d] w (fun e w' => e = .returned (.int .i64 (Lib.compareBytes l m)) ∧ w' = w) := by
  have R := run_cmp A B c d l m w ha hb
  clear ha hb
  generalize Lib.compareBytes l m = r at *
  generalize l.length = n1 at *
  generalize m.length = n2 at *
  go_enter Tryz.func52, Tryz.ntmps52
  go_wp2_with fail
  rw [run_callFunc_extern Tryz.func98 (by kernel_rfl) (by kernel_rfl) (by kernel_rfl) (e := Extern.BytealgCompare.compare) (by kernel_rfl), R]
  simp only [Result.andThen]
  rw [Oper.upon_value]
  go_wp2_with fail
  go_ret
  exact ⟨rfl, rfl⟩
end Go.Proofs.YtgbjhlkjceonpaaGreat.Lst
/- The sort of sets by their keys. -/
namespace Go.Proofs.YtgbjhlkjceonpaaGreat.Lst
open Go.RowKit Go.Sort Go.Shelf Go.Proofs.YtgbjhlkjceonpaaGreat.K Go.Proofs.YtgbjhlkjceonpaaGreat.Help Go.Proofs.YtgbjhlkjceonpaaGreat.Pfx Go.Proofs.YtgbjhlkjceonpaaGreat.Peer
set_option linter.unusedVariables false

def sortSet_ren : Go.Shelf.Ren := ⟨fun | 6 => 50 | 15 => 97 | 14 => 96 | 28 => 131 | 29 => 132 | 20 => 123 | 21 => 124 | 22 => 125 | 23 => 126 | 24 => 127 | 25 => 128 | 26 => 129 | 27 => 130 | 46 => 155 | 47 => 156 | 48 => 157 | 49 => 158 | 50 => 159 | 57 => 169 | n => n, fun | 22 => 38 | 24 => 96 | 25 => 99 | 3 => 3 | 39 => 150 | 0 => 0 | 53 => 114 | 55 => 55 | 4 => 4 | 46 => 172 | 45 => 171 | 50 => 176 | 5 => 5 | 9 => 9 | 66 => 194 | 70 => 198 | 76 => 207 | 77 => 80 | n => n, fun | n => n⟩
theorem sortSet : Go.Proofs.SlLaysF0.n6 Tryz.prog sortSet_ren := {
  mixed := by kernel_rfl
  f6 := ⟨Tryz.f50.name, by decide, Tryz.func50.trans (congrArg some (by kernel_rfl))⟩
  f14 := ⟨Tryz.f96.name, by decide, Tryz.func96.trans (congrArg some (by kernel_rfl))⟩
  f15 := Tryz.func97.trans (congrArg some (by kernel_rfl))
  f20 := ⟨Tryz.f123.name, by decide, Tryz.func123.trans (congrArg some (by kernel_rfl))⟩
  f21 := ⟨Tryz.f124.name, by decide, Tryz.func124.trans (congrArg some (by kernel_rfl))⟩
  f22 := ⟨Tryz.f125.name, by decide, Tryz.func125.trans (congrArg some (by kernel_rfl))⟩
  f23 := ⟨Tryz.f126.name, by decide, Tryz.func126.trans (congrArg some (by kernel_rfl))⟩
  f24 := ⟨Tryz.f127.name, by decide, Tryz.func127.trans (congrArg some (by kernel_rfl))⟩
  f25 := ⟨Tryz.f128.name, by decide, Tryz.func128.trans (congrArg some (by kernel_rfl))⟩
  f26 := ⟨Tryz.f129.name, by decide, Tryz.func129.trans (congrArg some (by kernel_rfl))⟩
  f27 := ⟨Tryz.f130.name, by decide, Tryz.func130.trans (congrArg some (by kernel_rfl))⟩
  f28 := Tryz.func131.trans (congrArg some (by kernel_rfl))
  f29 := Tryz.func132.trans (congrArg some (by kernel_rfl))
  f46 := ⟨Tryz.f155.name, by decide, Tryz.func155.trans (congrArg some (by kernel_rfl))⟩
  f47 := Tryz.func156.trans (congrArg some (by kernel_rfl))
  f48 := Tryz.func157.trans (congrArg some (by kernel_rfl))
  f49 := ⟨Tryz.f158.name, by decide, Tryz.func158.trans (congrArg some (by kernel_rfl))⟩
  f50 := ⟨Tryz.f159.name, by decide, Tryz.func159.trans (congrArg some (by kernel_rfl))⟩
  f57 := ⟨Tryz.f169.name, by decide, Tryz.func169.trans (congrArg some (by kernel_rfl))⟩
  t0 := Tryz.underlying0
  a0 := Tryz.isAgg0
  z0 := Tryz.sizeOf0
  v0 := Tryz.zeroValue0
  t3 := Tryz.underlying3
  a3 := Tryz.isAgg3
  z3 := Tryz.sizeOf3
  v3 := Tryz.zeroValue3
  t4 := Tryz.underlying4
  a4 := Tryz.isAgg4
  z4 := Tryz.sizeOf4
  v4 := Tryz.zeroValue4
  t5 := Tryz.underlying5
  a5 := Tryz.isAgg5
  z5 := Tryz.sizeOf5
  v5 := Tryz.zeroValue5
  t9 := Tryz.underlying9
  a9 := Tryz.isAgg9
  z9 := Tryz.sizeOf9
  v9 := Tryz.zeroValue9
  t22 := Tryz.underlying38
  a22 := Tryz.isAgg38
  z22 := Tryz.sizeOf38
  v22 := Tryz.zeroValue38
  t25 := Tryz.underlying99
  a25 := Tryz.isAgg99
  z25 := Tryz.sizeOf99
  v25 := Tryz.zeroValue99
  t39 := Tryz.underlying150
  a39 := Tryz.isAgg150
  z39 := Tryz.sizeOf150
  v39 := Tryz.zeroValue150
  t45 := Tryz.underlying171
  a45 := Tryz.isAgg171
  z45 := Tryz.sizeOf171
  v45 := Tryz.zeroValue171
  t46 := Tryz.underlying172
  a46 := Tryz.isAgg172
  z46 := Tryz.sizeOf172
  v46 := Tryz.zeroValue172
  t50 := Tryz.underlying176
  a50 := Tryz.isAgg176
  z50 := Tryz.sizeOf176
  v50 := Tryz.zeroValue176
  t53 := Tryz.underlying114
  a53 := Tryz.isAgg114
  z53 := Tryz.sizeOf114
  v53 := Tryz.zeroValue114
  t55 := Tryz.underlying55
  a55 := Tryz.isAgg55
  z55 := Tryz.sizeOf55
  v55 := Tryz.zeroValue55
  t66 := Tryz.underlying194
  a66 := Tryz.isAgg194
  z66 := Tryz.sizeOf194
  v66 := Tryz.zeroValue194
  t70 := Tryz.underlying198
  a70 := Tryz.isAgg198
  z70 := Tryz.sizeOf198
  v70 := Tryz.zeroValue198
  t76 := Tryz.underlying207
  a76 := Tryz.isAgg207
  z76 := Tryz.sizeOf207
  v76 := Tryz.zeroValue207
  t77 := Tryz.underlying80
  a77 := Tryz.isAgg80
  z77 := Tryz.sizeOf80
  v77 := Tryz.zeroValue80 }

/-! bytes compared -/
theorem cmp_lt : ∀ (l m : List UInt8), decide (Lib.compareBytes l m < 0) = lessB l m
  | [], [] => by simp [Lib.compareBytes, lessB]
  | [], y :: m => by simp [Lib.compareBytes, lessB]
  | x :: l, [] => by simp [Lib.compareBytes, lessB]
  | x :: l, y :: m => by
    unfold Lib.compareBytes lessB
    by_cases h : x = y
    · subst h
      have hlt : ¬ x < x := UInt8.lt_irrefl x
      simp only [hlt, if_false, if_true]
      exact cmp_lt l m
    · rw [if_neg h]
      by_cases hlt : x < y
      · simp [hlt]
      · have : y < x := UInt8.lt_of_le_of_ne (UInt8.not_lt.1 hlt) (Ne.symm h)
        simp [hlt, this]
theorem lessB_irrefl (l : List UInt8) : lessB l l = false := by rw [lessB_iff]; simp
theorem lessB_tr {a b c : List UInt8} (h1 : lessB a b = true) (h2 : lessB b c = true) : lessB a c = true := by
  rw [lessB_iff] at *
  simp only [decide_eq_true_eq] at *
  exact List.lt_trans h1 h2
theorem lessB_ntr {a b c : List UInt8} (h1 : lessB a b = false) (h2 : lessB b c = false) : lessB a c = false := by
  rw [lessB_iff] at *
  simp only [decide_eq_false_iff_not, List.not_lt] at *
  exact List.le_trans h2 h1
theorem lessB_total {a b : List UInt8} (h1 : lessB a b = false) (h2 : lessB b a = false) : a = b := by
  rw [lessB_iff] at *
  simp only [decide_eq_false_iff_not, List.not_lt] at *
  exact List.le_antisymm h2 h1
/-- the closure -/
theorem setsCmp_any (A C : Option Addr) (a c : Nat) (k m : List UInt8) (v1 g1 v2 g2 : Value) (W : World) (o1 : v1.oneCell' = true) (o2 : v2.oneCell' = true) (h1 : Bs W A a k) (h2 : Bs W C c m) :
    Calls Tryz.prog 51 #[.agg #[.slice A k.length a, v1, g1], .agg #[.slice C m.length c, v2, g2]] W (fun e w' => e = .returned (.int .i64 (Lib.compareBytes k m)) ∧ ∃ q os', w' = grow (W.drewN q) os') := by
  have hb1 := below_alloc (Below.refl W.heap.size W) (.cells #[.slice A k.length a, v1, g1] 96)
  have hb2 := below_alloc hb1 (.cells #[.slice C m.length c, v2, g2] 96)
  have BC := Lib.hid (bytesCompare A C a c k m _ (h1.below hb2) (h2.below hb2))
  have q1 := blk_alloc (blk_new W (.cells #[.slice A k.length a, v1, g1] 96)) (.cells #[.slice C m.length c, v2, g2] 96)
  have p0 := (blk_cell q1 0).trans (b := some (Value.slice A k.length a)) rfl
  have q2 : ((W.alloc (.cells #[.slice A k.length a, v1, g1] 96)).alloc (.cells #[.slice C m.length c, v2, g2] 96)).heap[W.heap.size + 1]? = some (.cells #[.slice C m.length c, v2, g2] 96 (0, 0)) := by
    have := blk_new (W.alloc (.cells #[.slice A k.length a, v1, g1] 96)) (.cells #[.slice C m.length c, v2, g2] 96)
    simpa using this
  have p1 := (blk_cell q2 0).trans (b := some (Value.slice C m.length c)) rfl
  clear hb1 hb2 q1 q2 h1 h2
  generalize Lib.compareBytes k m = r at *
  go_enter Tryz.func51, Tryz.ntmps51
  go_wp2_with (go_at_call 52; refine BC.out.mono ?_; rintro e w' ⟨rfl, rfl⟩)
  go_ret
  exact ⟨rfl, 0, _, by rw [alloc_eq_grow, alloc_eq_grow, grow_grow]; rfl⟩
end Go.Proofs.YtgbjhlkjceonpaaGreat.Lst
/- The sort of sets by their keys: the contract. -/
namespace Go.Proofs.YtgbjhlkjceonpaaGreat.Lst
open Go.RowKit Go.Sort Go.Shelf Go.Proofs.YtgbjhlkjceonpaaGreat.K Go.Proofs.YtgbjhlkjceonpaaGreat.Help Go.Proofs.YtgbjhlkjceonpaaGreat.Pfx Go.Proofs.YtgbjhlkjceonpaaGreat.Peer
set_option linter.unusedVariables false

def sortS (l : List SetD) : List SetD := l.mergeSort (fun x y => !lessB y.1 x.1)
section
variable {α : Type} [Inhabited α] {enc : α → List Value}
theorem sorted_only {W : World} {g n : Nat} {k : Nat} (d : Array α) (os : Array Obj) : Only W (sortWorldK enc k W g 0 n d os) (fun i => i = g) := by
  refine ⟨rfl, rfl, rfl, by simp [sortWorldK, putRowK, putRow, mapBlock, Sort.ahead, grow], fun i hi hne => ?_⟩
  unfold sortWorldK
  rw [heap_grow_old _ _ (by simpa [putRowK, putRow, mapBlock, Sort.ahead] using hi)]
  have : g ≠ i := fun e => hne e.symm
  simp [putRowK, putRow, mapBlock, Sort.ahead, Array.getElem?_modify, this]
theorem sorted_blk {W : World} {g n : Nat} {k : Nat} {cur : Array Value} {t : TypeId} {fr : Nat × Nat} (d : Array α) (os : Array Obj) (hb : W.heap[g]? = some (.cells cur t fr)) :
    (sortWorldK enc k W g 0 n d os).heap[g]? = some (.cells (putCells id 0 (flatK enc k d) cur) t fr) := by
  have hg : g < W.heap.size := blk_lt hb
  unfold sortWorldK
  rw [heap_grow_old _ _ (by simpa [putRowK, putRow, mapBlock, Sort.ahead] using hg)]
  simp [putRowK, putRow, mapBlock, Sort.ahead, Array.getElem?_modify, hb, onCells]
theorem flat_len {k : Nat} : ∀ (raws : List (List Value)), (∀ r, r ∈ raws → r.length = k) → raws.flatten.length = raws.length * k
  | [], _ => by simp
  | r :: t, h => by
    rw [List.flatten_cons, List.length_append, flat_len t (fun x hx => h x (by simp [hx])), h r (by simp), List.length_cons, Nat.succ_mul]
    omega
theorem flatK_eq {k : Nat} (hk : ∀ x, (enc x).length = k) (hk0 : 0 < k) (d : Array α) : (flatK enc k d).toList = (d.toList.map enc).flatten := by
  apply List.ext_getElem?
  intro t
  have hl : (d.toList.map enc).flatten.length = d.size * k := by
    rw [flat_len (k := k) _ (fun r hr => by obtain ⟨x, _, rfl⟩ := List.mem_map.1 hr; exact hk x)]
    simp
  by_cases ht : t < d.size * k
  · have hd : t / k < d.size := Nat.div_lt_of_lt_mul (by rw [Nat.mul_comm]; exact ht)
    have hm : t % k < k := Nat.mod_lt _ hk0
    have h1 := flat_at (sz := k) (raws := d.toList.map enc) (fun r hr => by obtain ⟨x, _, rfl⟩ := List.mem_map.1 hr; exact hk x) (t / k) (t % k) (enc d[t / k]) (by simp [hd]) hm
    have ht2 : t / k * k + t % k = t := by rw [Nat.mul_comm]; exact Nat.div_add_mod t k
    rw [ht2] at h1
    rw [h1]
    have h2 : (flatK enc k d).toList[t]? = some ((enc d[t / k]!)[t % k]!) := by
      rw [Array.getElem?_toList]
      simp [flatK, ht]
    rw [h2, getElem!_pos d (t / k) hd, getElem!_pos (enc d[t / k]) (t % k) (by rw [hk]; exact hm), List.getElem?_eq_getElem (by rw [hk]; exact hm)]
  · rw [List.getElem?_eq_none (by simp; omega), List.getElem?_eq_none (by rw [hl]; omega)]
end
theorem put_take (F cur : Array Value) (p : Nat) (hp : F.size = p) (h : p ≤ cur.size) : (putCells id 0 F cur).toList.take p = F.toList := by
  apply List.ext_getElem?
  intro j
  by_cases hj : j < p
  · rw [List.getElem?_take_of_lt hj, Array.getElem?_toList, Array.getElem?_toList]
    simp [putCells, show j < F.size by omega, show j < cur.size by omega]
  · rw [List.getElem?_take_eq_none (by omega), List.getElem?_eq_none (by simp; omega)]
set_option maxHeartbeats 1000000 in
theorem sortSets_any (W : World) (B : Nat) (v : Value) (l : List SetD) (hO : OwnL SetE 96 W (fun _ => False) B v l) (hn : (l.map Prod.fst).Nodup) :
    Calls Tryz.prog 50 #[v, .func (.func 51) #[] #[]] W (fun e w' => e = .returned (.tuple #[]) ∧ OwnL SetE 96 w' (fun _ => False) B v (sortS l) ∧ Only W w' (fun i => v.ownBlock = some i)) := by
  rcases hl : l with _ | ⟨x0, t⟩
  · subst hl
    obtain ⟨A, c, rfl⟩ := hO.slice
    have h : Calls Tryz.prog 50 #[.slice A 0 c, .func (.func 51) #[] #[]] W _ := AnyF.slices_SortFunc_none sortSet A c _ W
    refine h.mono ?_
    rintro e w' ⟨rfl, rfl⟩
    exact ⟨rfl, by simpa [sortS] using hO, Only.refl _ _⟩
  · rw [← hl]
    have hlen : l.length = t.length + 1 := by rw [hl]; rfl
    clear hl
    obtain ⟨raws, hr, hown, hm, hR⟩ := hO
    rcases hown.2 with ⟨_, h0⟩ | ⟨g, cap, cur, rfl, hbase, hb, h1, h2, h3, h4⟩
    · omega
    have hsh : ∀ i : Fin (t.length + 1), SetR W (fun k => (fun _ => False) k ∨ (Value.slice (some ⟨g, 0, none⟩) l.length cap).ownBlock = some k) (raws.getD i.val []) (l.getD i.val zeroSet) := fun i => by
      have e1 : l[i.val]? = some (l.getD i.val zeroSet) := getD_get zeroSet (by omega)
      have e2 : raws[i.val]? = some (raws.getD i.val []) := getD_get [] (by omega)
      exact hR i.val _ _ e1 e2
    obtain ⟨enc, he⟩ : ∃ enc : Fin (t.length + 1) → List Value, ∀ i, enc i = raws.getD i.val [] := ⟨_, fun _ => rfl⟩
    obtain ⟨dat, hdt⟩ : ∃ dat : Fin (t.length + 1) → SetD, ∀ i, dat i = l.getD i.val zeroSet := ⟨_, fun _ => rfl⟩
    have hsh2 : ∀ i, SetR W (fun k => k = g) (enc i) (dat i) := fun i => by
      rw [he, hdt]
      exact SetE.reno (hsh i) (fun k hk => .inl (.inr (by rw [hk]; rfl)))
    have hk : ∀ i, (enc i).length = 3 := fun i => SetE.len (hsh2 i)
    have hone : ∀ i, ∀ u ∈ enc i, u.oneCell' = true := fun i => SetE.one (hsh2 i)
    obtain ⟨cf, hcf⟩ : ∃ cf : Fin (t.length + 1) → Fin (t.length + 1) → Int, ∀ i j, cf i j = Lib.compareBytes (dat i).1 (dat j).1 := ⟨_, fun _ _ => rfl⟩
    have hlt : ∀ i j, ltOf cf i j = lessB (dat i).1 (dat j).1 := fun i j => by unfold ltOf; rw [hcf, cmp_lt]
    have hO : SWO (ltOf cf) := ⟨fun x => by rw [hlt]; exact lessB_irrefl _, fun x y z a b => by rw [hlt] at *; exact lessB_tr a b, fun x y z a b => by rw [hlt] at *; exact lessB_ntr a b⟩
    obtain ⟨d, hd⟩ : ∃ d : Array (Fin (t.length + 1)), d = Array.ofFn (fun i => i) := ⟨_, rfl⟩
    have hds : d.size = l.length := by rw [hd, hlen]; simp
    have hdi : ∀ i (h : i < t.length + 1), d.toList[i]? = some ⟨i, h⟩ := fun i h => by
      rw [hd, Array.getElem?_toList, Array.getElem?_eq_getElem (by simpa using h), Array.getElem_ofFn]
    have hdn : ∀ i, ¬ i < t.length + 1 → d.toList[i]? = none := fun i h => by
      rw [Array.getElem?_toList]; exact Array.getElem?_eq_none (by omega)
    have hdl : d.toList.map enc = raws := by
      apply List.ext_getElem?
      intro i
      rw [List.getElem?_map]
      by_cases h : i < t.length + 1
      · rw [hdi i h, Option.map_some, he]
        exact (getD_get [] (by omega)).symm
      · rw [hdn i h, List.getElem?_eq_none (by omega)]; rfl
    have hdd : d.toList.map dat = l := by
      apply List.ext_getElem?
      intro i
      rw [List.getElem?_map]
      by_cases h : i < t.length + 1
      · rw [hdi i h, Option.map_some, hdt]
        exact (getD_get zeroSet (by omega)).symm
      · rw [hdn i h, List.getElem?_eq_none (by omega)]; rfl
    have hF : (flatK enc 3 d).toList = raws.flatten := by rw [flatK_eq hk (by decide), hdl]
    have hcmp : CmpLays Tryz.prog 51 #[] enc 3 cf g 0 d.size W := by
      intro m os dk _ x y
      obtain ⟨A, a, C, c, ex, s1, s2⟩ := hsh2 x
      obtain ⟨A', a', C', c', ey, u1, u2⟩ := hsh2 y
      have k := sorted_only (enc := enc) (W := W) (g := g) (n := m) (k := 3) dk os
      have hc := setsCmp_any A A' a a' (dat x).1 (dat y).1 (.slice C (dat x).2.1.length c) (.bool (dat x).2.2) (.slice C' (dat y).2.1.length c') (.bool (dat y).2.2) (sortWorldK enc 3 W g 0 m dk os) rfl rfl (s1.only k (fun i _ h => h)).1 (u1.only k (fun i _ h => h)).1
      rw [← hcf] at hc
      rw [ex, ey]
      exact hc
    have hH : HoldsK enc 3 W g 0 d := by
      intro j hj
      rw [Nat.zero_add]
      refine ⟨(blk_cell hb j).trans ?_, blk_free hb j⟩
      have hj2 : j < l.length * 3 := by rw [size_flatK, hds] at hj; exact hj
      have e1 : (cur.toList.take (l.length * 3))[j]? = raws.flatten[j]? := by rw [show cur.toList.take (l.length * 3) = raws.flatten from h4]
      rw [List.getElem?_take_of_lt hj2, Array.getElem?_toList, ← hF, Array.getElem?_toList] at e1
      rw [e1, Array.getElem?_eq_getElem hj, getElem!_pos _ j hj]
      rfl
    have hT : ∀ x y, ltOf cf x y = false → ltOf cf y x = false → x = y := fun x y a b => by
      rw [hlt] at a b
      have hke := lessB_total a b
      rw [hdt, hdt] at hke
      have hx : x.val < l.length := by omega
      have hy : y.val < l.length := by omega
      have ex : l.getD x.val zeroSet = l[x.val] := by simp [hx]
      have ey : l.getD y.val zeroSet = l[y.val] := by simp [hy]
      rw [ex, ey] at hke
      have hp := List.pairwise_iff_getElem.1 (List.nodup_iff_pairwise_ne.1 hn)
      apply Fin.ext
      rcases Nat.lt_trichotomy x.val y.val with h | h | h
      · exact absurd (by rw [List.getElem_map, List.getElem_map]; exact hke) (hp x.val y.val (by simpa using hx) (by simpa using hy) h)
      · exact h
      · exact absurd (by rw [List.getElem_map, List.getElem_map]; exact hke.symm) (hp y.val x.val (by simpa using hy) (by simpa using hx) h)
    have eg : ∀ args w, (callFunc 51 args).run Tryz.prog w = .ok (.enter 51 args) w := enters_of Tryz.func51 (by kernel_rfl) rfl
    have hc := AnyQ.slices_SortFunc_total sortSet 3 Tryz.isAgg96 Tryz.sizeOf96 enc hk hone cf hO 51 #[] g 0 cap d W eg hcmp hH (blk_lt hb) (by rw [hds]; omega) hT
    rw [hds] at hc
    change Calls Tryz.prog 50 _ _ _ at hc
    refine hc.mono ?_
    rintro e w' ⟨rfl, nn, os, hw⟩
    have hp : (d.toList.mergeSort fun x y => !ltOf cf y x).Perm d.toList := List.mergeSort_perm _ _
    have hsl : (d.toList.mergeSort fun x y => !ltOf cf y x).map dat = sortS l := by
      unfold sortS
      rw [List.map_mergeSort (s := fun x y => !lessB y.1 x.1) (fun a _ b _ => by rw [hlt]), hdd]
    generalize (d.toList.mergeSort fun x y => !ltOf cf y x) = dl at *
    have hdll : dl.length = l.length := by rw [hp.length_eq]; simp [hds]
    have k := sorted_only (enc := enc) (W := W) (g := g) (n := nn) (k := 3) dl.toArray os
    have hb' := sorted_blk (enc := enc) (n := nn) (k := 3) dl.toArray os hb
    rw [← hw] at k hb'
    have hF' : (flatK enc 3 dl.toArray).toList = (dl.map enc).flatten := by rw [flatK_eq hk (by decide)]
    have hfs : (flatK enc 3 dl.toArray).size = l.length * 3 := by rw [size_flatK]; simp [hdll]
    refine ⟨rfl, ⟨dl.map enc, by rw [← hsl]; simp, ?_, by rw [← hsl]; simp [hdll]; omega, fun i x raw hx hraw => ?_⟩, k.mono (fun i _ h => by rw [h]; rfl)⟩
    · rw [← hsl, List.length_map, hdll]
      refine ⟨?_, .inr ⟨g, cap, _, rfl, hbase, hb', h1, h2, by simp [putCells, h3], ?_⟩⟩
      · rw [← hF']; simp [hdll]; rfl
      · rw [← hF']; exact put_take _ _ _ hfs (by rw [h3]; exact Nat.mul_le_mul_right _ h1)
    · rw [← hsl, List.getElem?_map] at hx
      rw [List.getElem?_map] at hraw
      obtain ⟨q, hq, rfl⟩ := Option.map_eq_some_iff.1 hx
      rw [hq] at hraw
      simp only [Option.map_some, Option.some.injEq] at hraw
      subst hraw
      exact SetE.reno (SetE.only (hsh2 q) k (fun i _ h => h)) (fun i hi => .inl (by
        rcases hi with hi | hi
        · exact hi.elim
        · have : g = i := by simpa [Value.ownBlock] using hi
          exact this.symm))
end Go.Proofs.YtgbjhlkjceonpaaGreat.Lst
/- The program's sets are the document's (plain). -/
namespace Go.Proofs.YtgbjhlkjceonpaaGreat.Lst
open Go.RowKit Go.Proofs.YtgbjhlkjceonpaaGreat.K Go.Proofs.YtgbjhlkjceonpaaGreat.Help Go.Proofs.YtgbjhlkjceonpaaGreat.Pfx Go.Proofs.YtgbjhlkjceonpaaGreat.Peer
set_option linter.unusedVariables false

def fA (was : List RowD) (r : RowD) : Option SetD := if (hasK was r.1 && decide (valOf was r.1 = r.2)) = true then none else some (r.1, r.2, false)
def fB (is_ : List RowD) (r : RowD) : Option SetD := if hasK is_ r.1 = true then none else some (r.1, [], true)
def stepPA (was is_ : List RowD) (s : List SetD) (k : List UInt8) : List SetD := if (hasK was k && decide (valOf was k = valOf is_ k)) = true then s else s ++ [(k, valOf is_ k, false)]
def stepPB (is_ : List RowD) (s : List SetD) (k : List UInt8) : List SetD := if hasK is_ k = true then s else s ++ [(k, [], true)]
def rawSets (was is_ : List RowD) : List SetD := (keysL was).foldl (stepPB is_) ((keysL is_).foldl (stepPA was is_) [])
theorem stepPA_len (was is_ : List RowD) (s : List SetD) (k : List UInt8) : (stepPA was is_ s k).length ≤ s.length + 1 := by
  unfold stepPA
  split
  · omega
  · simp
theorem stepPB_len (is_ : List RowD) (s : List SetD) (k : List UInt8) : (stepPB is_ s k).length ≤ s.length + 1 := by
  unfold stepPB
  split
  · omega
  · simp
theorem foldPA (was is_ : List RowD) : ∀ (ks : List (List UInt8)) (s : List SetD), ks.foldl (stepPA was is_) s = s ++ (ks.map (fun k => (k, valOf is_ k))).filterMap (fA was)
  | [], s => by simp
  | k :: t, s => by
    rw [List.foldl_cons, foldPA was is_ t, List.map_cons, List.filterMap_cons]
    unfold stepPA fA
    dsimp only
    by_cases h : (hasK was k && decide (valOf was k = valOf is_ k)) = true
    · rw [if_pos h, if_pos h]
    · rw [if_neg h, if_neg h]; simp
theorem foldPB (was is_ : List RowD) : ∀ (ks : List (List UInt8)) (s : List SetD), ks.foldl (stepPB is_) s = s ++ (ks.map (fun k => (k, valOf was k))).filterMap (fB is_)
  | [], s => by simp
  | k :: t, s => by
    rw [List.foldl_cons, foldPB was is_ t, List.map_cons, List.filterMap_cons]
    unfold stepPB fB
    dsimp only
    by_cases h : hasK is_ k = true
    · rw [if_pos h, if_pos h]
    · rw [if_neg h, if_neg h]; simp
theorem raw_eq (was is_ : List RowD) : rawSets was is_ = (rowsL is_).filterMap (fA was) ++ (rowsL was).filterMap (fB is_) := by
  unfold rawSets rowsL
  rw [foldPA, foldPB, List.nil_append]
theorem foldA (was : List RowD) : ∀ (l : List RowD) (s : List SetD), l.foldl (stepA was) s = (l.filterMap (fA was)).foldl (layG ltS) s
  | [], s => rfl
  | r :: t, s => by
    rw [List.foldl_cons, foldA was t, List.filterMap_cons]
    unfold stepA fA
    by_cases h : (hasK was r.1 && decide (valOf was r.1 = r.2)) = true
    · rw [if_pos h, if_pos h]
    · rw [if_neg h, if_neg h]; rfl
theorem foldB (is_ : List RowD) : ∀ (l : List RowD) (s : List SetD), l.foldl (stepB is_) s = (l.filterMap (fB is_)).foldl (layG ltS) s
  | [], s => rfl
  | r :: t, s => by
    rw [List.foldl_cons, foldB is_ t, List.filterMap_cons]
    unfold stepB fB
    by_cases h : hasK is_ r.1 = true
    · rw [if_pos h, if_pos h]
    · rw [if_neg h, if_neg h]; rfl
theorem setsOf_eq (was is_ : List RowD) : setsOf was is_ = (is_.filterMap (fA was) ++ was.filterMap (fB is_)).foldl (layG ltS) [] := by
  unfold setsOf
  rw [foldA, foldB, List.foldl_append]
theorem hasK_mem {l : List RowD} {k : List UInt8} : hasK l k = true ↔ k ∈ l.map Prod.fst := by
  unfold hasK
  rw [List.any_eq_true, List.mem_map]
  constructor
  · rintro ⟨r, h1, h2⟩; exact ⟨r, h1, by simpa using h2⟩
  · rintro ⟨r, h1, h2⟩; exact ⟨r, h1, by simpa using h2⟩
theorem fA_some {was : List RowD} {r : RowD} {s : SetD} (h : fA was r = some s) : s = (r.1, r.2, false) ∧ ¬ (hasK was r.1 = true ∧ valOf was r.1 = r.2) := by
  unfold fA at h
  by_cases h1 : (hasK was r.1 && decide (valOf was r.1 = r.2)) = true
  · rw [if_pos h1] at h; cases h
  · rw [if_neg h1] at h; injection h with h; exact ⟨h.symm, by simpa using h1⟩
theorem fB_some {is_ : List RowD} {r : RowD} {s : SetD} (h : fB is_ r = some s) : s = (r.1, [], true) ∧ hasK is_ r.1 = false := by
  unfold fB at h
  by_cases h1 : hasK is_ r.1 = true
  · rw [if_pos h1] at h; cases h
  · rw [if_neg h1] at h; injection h with h; exact ⟨h.symm, by simpa using h1⟩
theorem fm_sub {f : RowD → Option SetD} (hf : ∀ r s, f r = some s → s.1 = r.1) : ∀ l : List RowD, ((l.filterMap f).map Prod.fst).Sublist (l.map Prod.fst)
  | [] => by simp
  | r :: t => by
    rw [List.filterMap_cons, List.map_cons]
    cases h : f r with
    | none => exact (fm_sub hf t).cons _
    | some s => rw [List.map_cons, hf r s h]; exact (fm_sub hf t).cons_cons _
theorem all_nodup {was is_ : List RowD} (h1 : (was.map Prod.fst).Nodup) (h2 : (is_.map Prod.fst).Nodup) : ((is_.filterMap (fA was) ++ was.filterMap (fB is_)).map Prod.fst).Nodup := by
  rw [List.map_append, List.nodup_append]
  refine ⟨h2.sublist (fm_sub (fun r s h => by rw [(fA_some h).1]) _), h1.sublist (fm_sub (fun r s h => by rw [(fB_some h).1]) _), ?_⟩
  intro a ha b hb e
  subst e
  obtain ⟨s, hs, rfl⟩ := List.mem_map.1 ha
  obtain ⟨u, hu, e⟩ := List.mem_map.1 hb
  obtain ⟨r, hr, er⟩ := List.mem_filterMap.1 hs
  obtain ⟨q, hq, eq⟩ := List.mem_filterMap.1 hu
  have e1 := (fA_some er).1
  have e2 := fB_some eq
  rw [e2.1, e1] at e
  have : hasK is_ q.1 = true := hasK_mem.2 (List.mem_map.2 ⟨r, hr, by simpa using e.symm⟩)
  rw [this] at e2
  exact absurd e2.2 (by simp)
theorem one_fst {α β : Type} {l : List (α × β)} (hn : (l.map Prod.fst).Nodup) {r q : α × β} (hr : r ∈ l) (hq : q ∈ l) (h : r.1 = q.1) : r = q := by
  induction l with
  | nil => cases hr
  | cons x t ih =>
    rw [List.map_cons, List.nodup_cons] at hn
    rcases List.mem_cons.1 hr with e1 | hr2
    · rcases List.mem_cons.1 hq with e2 | hq2
      · rw [e1, e2]
      · exact absurd (List.mem_map.2 ⟨q, hq2, by rw [← h, e1]⟩) hn.1
    · rcases List.mem_cons.1 hq with e2 | hq2
      · exact absurd (List.mem_map.2 ⟨r, hr2, by rw [h, e2]⟩) hn.1
      · exact ih hn.2 hr2 hq2
theorem raw_perm {was is_ : List RowD} (h1 : (was.map Prod.fst).Nodup) (h2 : (is_.map Prod.fst).Nodup) : (rawSets was is_).Perm (is_.filterMap (fA was) ++ was.filterMap (fB is_)) := by
  rw [raw_eq]
  exact ((rowsL_perm h2).filterMap _).append ((rowsL_perm h1).filterMap _)
theorem raw_nodup {was is_ : List RowD} (h1 : (was.map Prod.fst).Nodup) (h2 : (is_.map Prod.fst).Nodup) : ((rawSets was is_).map Prod.fst).Nodup :=
  ((raw_perm h1 h2).map _).nodup_iff.2 (all_nodup h1 h2)
theorem ltS_asym (a b : SetD) (h : ltS a b = true) : ltS b a = false := by
  unfold ltS at *
  cases e : lessB b.1 a.1 with
  | false => rfl
  | true => have := lessB_tr h e; rw [lessB_irrefl] at this; cases this
theorem ltS_tr (a b c : SetD) (h1 : ltS b a = false) (h2 : ltS c b = false) : ltS c a = false := lessB_ntr h2 h1
theorem sortS_perm (l : List SetD) : (sortS l).Perm l := List.mergeSort_perm _ _
theorem sortS_sorted (l : List SetD) : (sortS l).Pairwise (fun a b => ltS b a = false) := by
  have tr : ∀ a b c : SetD, (!lessB b.1 a.1) = true → (!lessB c.1 b.1) = true → (!lessB c.1 a.1) = true := fun a b c h1 h2 => by
    simp only [Bool.not_eq_true'] at *
    exact lessB_ntr h2 h1
  have tot : ∀ a b : SetD, ((!lessB b.1 a.1) || (!lessB a.1 b.1)) = true := fun a b => by
    cases e : lessB b.1 a.1 with
    | false => rfl
    | true => have h := ltS_asym b a e; unfold ltS at h; rw [h]; rfl
  exact (List.pairwise_mergeSort tr tot l).imp (fun h => by simpa [ltS] using h)
theorem progSets_eq {was is_ : List RowD} (h1 : (was.map Prod.fst).Nodup) (h2 : (is_.map Prod.fst).Nodup) : sortS (rawSets was is_) = setsOf was is_ := by
  rw [setsOf_eq]
  obtain ⟨s1, p1⟩ := fold_ins ltS_asym ltS_tr (is_.filterMap (fA was) ++ was.filterMap (fB is_)) [] List.Pairwise.nil
  rw [List.nil_append] at p1
  have p2 := (sortS_perm (rawSets was is_)).trans (raw_perm h1 h2)
  refine List.Perm.eq_of_pairwise (le := fun a b => ltS b a = false) (fun a b ha hb e1 e2 => ?_) (sortS_sorted _) s1 (p2.trans p1.symm)
  exact one_fst (all_nodup h1 h2) (p2.mem_iff.1 ha) (p1.mem_iff.1 hb) (lessB_total e2 e1)
end Go.Proofs.YtgbjhlkjceonpaaGreat.Lst
/- The walk of rows.state. -/
namespace Go.Proofs.YtgbjhlkjceonpaaGreat.Lst
open Go.RowKit Go.Proofs.YtgbjhlkjceonpaaGreat.K Go.Proofs.YtgbjhlkjceonpaaGreat.Help Go.Proofs.YtgbjhlkjceonpaaGreat.Pfx Go.Proofs.YtgbjhlkjceonpaaGreat.Peer
set_option linter.unusedVariables false

set_option maxRecDepth 100000 in
set_option maxHeartbeats 8000000 in
theorem mapState_any (A B : Option Addr) (a b : Nat) (ps : List PeerD) (ls : List LaneD) (w : World) (hp : Lst PeerE w (fun _ => False) A a ps) (hq : Lst LaneE w (fun _ => False) B b ls) (hn : ps.length ≤ 400) (hm : ls.length ≤ 400) :
    Calls Tryz.prog 48 #[.slice A ps.length a, .slice B ls.length b] w (RetM w (rowsPL ps ls) (goodPL ps ls && !twiceB (rowsPL ps ls))) := by
  have HP := Lib.hid hp
  have HQ := Lib.hid hq
  have h1 := hp.le
  have h2 := hp.max
  have h3 := hq.le
  have h4 := hq.max
  clear hp hq
  have HB0 := Lib.hid (below_alloc (Below.refl w.heap.size w) (.map #[] 0))
  have HM0 : Hid (GMap (w.alloc (.map #[] 0)) w.heap.size []) := Lib.hid ⟨World.ownsMap_made w _ _ _, by simp⟩
  generalize hr : (goodPL ps ls && !twiceB (rowsPL ps ls)) = res
  have HR := Lib.hid hr
  clear hr
  have hgd := fun h : goodPL ps ls = true => h
  clear hgd
  generalize hnn : ps.length = n at *
  have HN := Lib.hid hnn
  generalize hmm : ls.length = m at *
  have HM := Lib.hid hmm
  clear hnn hmm
  have hmk : (Instr.makeMap 62 none).run Tryz.prog w = .ok (.map (some w.heap.size)) (w.alloc (.map #[] 0)) := rfl
  go_enter Tryz.func48, Tryz.ntmps48
  go_wp2_with fail
  go_loopg [18] n (fun gk i wr => ∃ (k : Nat) (rs : List GRow), k ≤ n ∧ gk = n - k ∧ i = .int .i64 (k : Int) ∧ Hid (GMap wr w.heap.size rs) ∧ Hid (GOf wr ((rowsPL ps ls).take k) rs) ∧ Hid ((ps.take k).all okP = true) ∧ Hid (rs.length = k) ∧ Below w.heap.size w wr)
  case atStart => exact ⟨0, [], by omega, rfl, rfl, HM0, GOf.nil _, rfl, rfl, HB0.out⟩
  case round =>
    clear HB0 HM0 hmk
    obtain ⟨k, rs, hk, rfl, rfl, HG, HO, HA, HRL, hb⟩ := hrel
    have HW := Lib.hid hb
    clear hb
    by_cases hlt : k < n
    · have i1 : (k : Int) < (n : Int) := by omega
      have i0 : (0 : Int) ≤ (k : Int) := by omega
      have HT := Lib.hid (take_row (rowsPL ps ls) (k) (by rw [rowsPL_len, HN.out]; omega))
      have HGR := Lib.hid (rowsPL_p (ls := ls) (k := k) (by rw [HN.out]; exact hlt))
      have HBD := Lib.hid (bad_p (ps := ps) (ls := ls) (k := k) (by rw [HN.out]; exact hlt))
      have HDU := Lib.hid (fun h => dup_at (l := rowsPL ps ls) (i := k) (by rw [rowsPL_len, HN.out]; omega) h)
      obtain ⟨bk, off, A1, a1, B1, b1, rfl, hbk, c0, c1, c2, s1, s2⟩ := HP.out.peer k _ (getD_get zeroPeer (by rw [HN.out]; exact hlt))
      have HTA := Lib.hid (take_all okP zeroPeer ps k (by rw [HN.out]; exact hlt))
      rw [HA.out] at HTA
      obtain ⟨x, hx⟩ : ∃ y, ps.getD k zeroPeer = y := ⟨_, rfl⟩
      rw [hx] at c0 c1 c2 s1 s2 HGR HBD HTA
      rw [show rowP x = ((putPeer x).1, (putPeer x).2.1) from rfl] at HGR
      rw [show okP x = ((putPeer x).2.2 == 0) from rfl] at HBD HTA
      rw [HGR.out] at HT HDU
      have y0 : wr.cell? ⟨bk, off + k * 3, none⟩ = some (.int .i64 x.link) := (HW.out.cell (p := ⟨bk, _, none⟩) hbk).trans c0
      have y1 : wr.cell? ⟨bk, off + k * 3 + 1, none⟩ = some (.slice A1 x.key.length a1) := (HW.out.cell (p := ⟨bk, _, none⟩) hbk).trans c1
      have y2 : wr.cell? ⟨bk, off + k * 3 + 2, none⟩ = some (.slice B1 x.ps.length b1) := (HW.out.cell (p := ⟨bk, _, none⟩) hbk).trans c2
      have HBX := Lib.hid (below_alloc (Below.refl wr.heap.size wr) (.cells #[.int .i64 x.link, .slice A1 x.key.length a1, .slice B1 x.ps.length b1] 52))
      have q0 := blk_new wr (.cells #[.int .i64 x.link, .slice A1 x.key.length a1, .slice B1 x.ps.length b1] 52)
      have bb0 := (blk_cell q0 0).trans (b := some (Value.int .i64 x.link)) rfl
      have bb1 := (blk_cell q0 1).trans (b := some (Value.slice A1 x.key.length a1)) rfl
      have bb2 := (blk_cell q0 2).trans (b := some (Value.slice B1 x.ps.length b1)) rfl
      have P := Lib.hid (putPeer_any A1 B1 a1 b1 x (wr.alloc (.cells #[.int .i64 x.link, .slice A1 x.key.length a1, .slice B1 x.ps.length b1] 52)) ((s1.1.below HW.out).below (below_alloc (Below.refl _ _) (.cells #[.int .i64 x.link, .slice A1 x.key.length a1, .slice B1 x.ps.length b1] 52))) ((s2.1.below HW.out).below (below_alloc (Below.refl _ _) (.cells #[.int .i64 x.link, .slice A1 x.key.length a1, .slice B1 x.ps.length b1] 52))))
      unfold peerV at P
      generalize hpp : putPeer x = pp at HT HGR HBD HDU HTA P
      obtain ⟨pk, pv, pc⟩ := pp
      dsimp only at HT HGR HBD HDU HTA P
      clear c0 c1 c2 s1 s2 hx hpp q0 HGR
      go_wp2_with fail
      refine P.out.mono ?_
      rintro e w2 ⟨v1, v2, rfl, o1, o2, hb2⟩
      obtain ⟨A2, a2, rfl, t1⟩ := o1.bs
      obtain ⟨A3, a3, rfl, t2⟩ := o2.bs
      have hq1 := below_alloc (below_step HBX.out hb2) (.cells #[.slice A2 pk.length a2, .slice A3 pv.length a3] 64)
      have hq0 := below_alloc (Below.refl w2.heap.size w2) (.cells #[.slice A2 pk.length a2, .slice A3 pv.length a3] 64)
      have p0 := (blk_cell (blk_new w2 (.cells #[.slice A2 pk.length a2, .slice A3 pv.length a3] 64)) 0).trans (b := some (Value.slice A2 pk.length a2)) rfl
      have p1 := (blk_cell (blk_new w2 (.cells #[.slice A2 pk.length a2, .slice A3 pv.length a3] 64)) 1).trans (b := some (Value.slice A3 pv.length a3)) rfl
      have HW2 := Lib.hid (below_step HW.out hq1)
      have G2 := Lib.hid (HG.out.keep hq1)
      have O2 := Lib.hid (HO.out.below hq1)
      have T1 := Lib.hid (t1.below hq0)
      have T2 := Lib.hid (t2.below hq0)
      clear o1 o2 t1 t2 hb2 hq1 hq0
      by_cases hp : pc = 0
      · subst hp
        have TK := Lib.hid (take_any w.heap.size rs A2 A3 a2 a3 pv.length pk _ G2.out T1.out (by have := HRL.out; omega))
        go_wp2_with fail
        refine TK.out.mono ?_
        rintro e w3 ht
        rcases ht with ⟨hh, rfl, g3, k3⟩ | ⟨hh, rfl, g3, k3⟩
        · have W3 := Lib.hid (below_only HW2.out k3 (fun i hi => by omega))
          have HF : Hid (res = false) := by
            have h1 := hasG_true.1 hh
            rw [HO.out.fst] at h1
            rw [Hid, ← HR.out, HDU.out h1]
            simp
          clear g3 k3 hh
          go_wp2_with fail
          exact bodyPost_ret (v := .tuple #[.map none, .bool false]) (by simp [results, Tryz.results48, go_sem]) rfl ⟨W3.out, .inl ⟨HF.out, rfl⟩⟩
        · have W3 := Lib.hid (below_only HW2.out k3 (fun i hi => by omega))
          have G3 := Lib.hid g3
          have O3 : Hid (GOf w3 ((rowsPL ps ls).take (k + 1)) (rs ++ [(pk, .slice A3 pv.length a3)])) := by
            rw [Hid, HT.out]
            exact (O2.out.only k3 G2.out.noU8).snoc (x := (pk, pv)) (bs_only T2.out k3 (fun i hi _ => by rw [hi]; exact G2.out.noU8))
          clear g3 k3 hh
          go_wp2_with fail
          go_roundg (n - (k + 1))
          case measure => omega
          case rel => exact ⟨k + 1, rs ++ [(pk, .slice A3 pv.length a3)], by omega, rfl, by go_num, G3, O3, HTA.out.trans (by simp), by have := HRL.out; simp [Hid]; omega, W3.out⟩
      · have hp2 : (pc != 0) = true := by simpa using hp
        have HF : Hid (res = false) := by
          rw [Hid, ← HR.out, HBD.out (by simpa using hp)]
          rfl
        go_wp2_with fail
        exact bodyPost_ret (v := .tuple #[.map none, .bool false]) (by simp [results, Tryz.results48, go_sem]) rfl ⟨HW2.out, .inl ⟨HF.out, rfl⟩⟩
    · obtain rfl : k = n := by omega
      have i1 : ¬ (k : Int) < (k : Int) := by omega
      have HAP : Hid (ps.all okP = true) := by have := HA.out; rw [List.take_of_length_le (by rw [HN.out]; omega)] at this; exact this
      clear HA
      go_wp2_with fail
      go_loopg [38] m (fun gk i wr => ∃ (j : Nat) (rs : List GRow), j ≤ m ∧ gk = m - j ∧ i = .int .i64 (j : Int) ∧ Hid (GMap wr w.heap.size rs) ∧ Hid (GOf wr ((rowsPL ps ls).take (k + j)) rs) ∧ Hid ((ls.take j).all okL = true) ∧ Hid (rs.length = k + j) ∧ Below w.heap.size w wr)
      case atStart => exact ⟨0, rs, by omega, rfl, rfl, HG, HO, rfl, HRL, HW.out⟩
      case round =>
        clear HG HO HRL HW
        obtain ⟨j, rs, hj, rfl, rfl, HG, HO, HA, HRL, hb⟩ := hrel
        have HW := Lib.hid hb
        clear hb
        by_cases hlt : j < m
        · have i1 : (j : Int) < (m : Int) := by omega
          have i0 : (0 : Int) ≤ (j : Int) := by omega
          have HT := Lib.hid (take_row (rowsPL ps ls) (k + j) (by rw [rowsPL_len, HN.out, HM.out]; omega))
          have HGR := Lib.hid (by have := rowsPL_l (ps := ps) (ls := ls) (j := j) (by rw [HM.out]; exact hlt); rwa [HN.out] at this)
          have HBD := Lib.hid (bad_l (ps := ps) (ls := ls) (k := j) (by rw [HM.out]; exact hlt))
          have HDU := Lib.hid (fun h => dup_at (l := rowsPL ps ls) (i := k + j) (by rw [rowsPL_len, HN.out, HM.out]; omega) h)
          obtain ⟨bk, off, A1, a1, rfl, hbk, c0, c1, c2, c3, c4, c5, c6, c7, s1, lb⟩ := HQ.out.lane j _ (getD_get zeroLane (by rw [HM.out]; exact hlt))
          have HTA := Lib.hid (take_all okL zeroLane ls j (by rw [HM.out]; exact hlt))
          rw [HA.out] at HTA
          obtain ⟨x, hx⟩ : ∃ y, ls.getD j zeroLane = y := ⟨_, rfl⟩
          rw [hx] at c0 c1 c2 c3 c4 c5 c6 c7 s1 lb HGR HBD HTA
          rw [show rowL x = ((putLane x).1, (putLane x).2.1) from rfl] at HGR
          rw [show okL x = ((putLane x).2.2 == 0) from rfl] at HBD HTA
          rw [HGR.out] at HT HDU
          have y0 : wr.cell? ⟨bk, off + j * 8, none⟩ = some (.slice A1 x.key.length a1) := (HW.out.cell (p := ⟨bk, _, none⟩) hbk).trans c0
          have y1 : wr.cell? ⟨bk, off + j * 8 + 1, none⟩ = some (.int .i64 x.side) := (HW.out.cell (p := ⟨bk, _, none⟩) hbk).trans c1
          have y2 : wr.cell? ⟨bk, off + j * 8 + 2, none⟩ = some (.int .i64 x.cur) := (HW.out.cell (p := ⟨bk, _, none⟩) hbk).trans c2
          have y3 : wr.cell? ⟨bk, off + j * 8 + 3, none⟩ = some (.int .i64 x.next) := (HW.out.cell (p := ⟨bk, _, none⟩) hbk).trans c3
          have y4 : wr.cell? ⟨bk, off + j * 8 + 4, none⟩ = some (.int .u64 (x.sc : Int)) := (HW.out.cell (p := ⟨bk, _, none⟩) hbk).trans c4
          have y5 : wr.cell? ⟨bk, off + j * 8 + 5, none⟩ = some (.int .u64 (x.ceil : Int)) := (HW.out.cell (p := ⟨bk, _, none⟩) hbk).trans c5
          have y6 : wr.cell? ⟨bk, off + j * 8 + 6, none⟩ = some (.int .i64 x.sec) := (HW.out.cell (p := ⟨bk, _, none⟩) hbk).trans c6
          have y7 : wr.cell? ⟨bk, off + j * 8 + 7, none⟩ = some (.int .i64 x.nano) := (HW.out.cell (p := ⟨bk, _, none⟩) hbk).trans c7
          have HBX := Lib.hid (below_alloc (Below.refl wr.heap.size wr) (.cells #[.slice A1 x.key.length a1, .int .i64 x.side, .int .i64 x.cur, .int .i64 x.next, .int .u64 (x.sc : Int), .int .u64 (x.ceil : Int), .int .i64 x.sec, .int .i64 x.nano] 59))
          have q0 := blk_new wr (.cells #[.slice A1 x.key.length a1, .int .i64 x.side, .int .i64 x.cur, .int .i64 x.next, .int .u64 (x.sc : Int), .int .u64 (x.ceil : Int), .int .i64 x.sec, .int .i64 x.nano] 59)
          have bb0 := (blk_cell q0 0).trans (b := some (Value.slice A1 x.key.length a1)) rfl
          have bb1 := (blk_cell q0 1).trans (b := some (Value.int .i64 x.side)) rfl
          have bb2 := (blk_cell q0 2).trans (b := some (Value.int .i64 x.cur)) rfl
          have bb3 := (blk_cell q0 3).trans (b := some (Value.int .i64 x.next)) rfl
          have bb4 := (blk_cell q0 4).trans (b := some (Value.int .u64 (x.sc : Int))) rfl
          have bb5 := (blk_cell q0 5).trans (b := some (Value.int .u64 (x.ceil : Int))) rfl
          have bb6 := (blk_cell q0 6).trans (b := some (Value.int .i64 x.sec)) rfl
          have bb7 := (blk_cell q0 7).trans (b := some (Value.int .i64 x.nano)) rfl
          have P := Lib.hid (putLane_any A1 a1 x (wr.alloc (.cells #[.slice A1 x.key.length a1, .int .i64 x.side, .int .i64 x.cur, .int .i64 x.next, .int .u64 (x.sc : Int), .int .u64 (x.ceil : Int), .int .i64 x.sec, .int .i64 x.nano] 59)) ((s1.1.below HW.out).below (below_alloc (Below.refl _ _) (.cells #[.slice A1 x.key.length a1, .int .i64 x.side, .int .i64 x.cur, .int .i64 x.next, .int .u64 (x.sc : Int), .int .u64 (x.ceil : Int), .int .i64 x.sec, .int .i64 x.nano] 59))) lb)
          unfold laneV at P
          generalize hpp : putLane x = pp at HT HGR HBD HDU HTA P
          obtain ⟨pk, pv, pc⟩ := pp
          dsimp only at HT HGR HBD HDU HTA P
          clear c0 c1 c2 c3 c4 c5 c6 c7 s1 lb hx hpp q0 HGR
          go_wp2_with fail
          refine P.out.mono ?_
          rintro e w2 ⟨v1, v2, rfl, o1, o2, hb2⟩
          obtain ⟨A2, a2, rfl, t1⟩ := o1.bs
          obtain ⟨A3, a3, rfl, t2⟩ := o2.bs
          have hq1 := below_alloc (below_step HBX.out hb2) (.cells #[.slice A2 pk.length a2, .slice A3 pv.length a3] 64)
          have hq0 := below_alloc (Below.refl w2.heap.size w2) (.cells #[.slice A2 pk.length a2, .slice A3 pv.length a3] 64)
          have p0 := (blk_cell (blk_new w2 (.cells #[.slice A2 pk.length a2, .slice A3 pv.length a3] 64)) 0).trans (b := some (Value.slice A2 pk.length a2)) rfl
          have p1 := (blk_cell (blk_new w2 (.cells #[.slice A2 pk.length a2, .slice A3 pv.length a3] 64)) 1).trans (b := some (Value.slice A3 pv.length a3)) rfl
          have HW2 := Lib.hid (below_step HW.out hq1)
          have G2 := Lib.hid (HG.out.keep hq1)
          have O2 := Lib.hid (HO.out.below hq1)
          have T1 := Lib.hid (t1.below hq0)
          have T2 := Lib.hid (t2.below hq0)
          clear o1 o2 t1 t2 hb2 hq1 hq0
          by_cases hp : pc = 0
          · subst hp
            have TK := Lib.hid (take_any w.heap.size rs A2 A3 a2 a3 pv.length pk _ G2.out T1.out (by have := HRL.out; omega))
            go_wp2_with fail
            refine TK.out.mono ?_
            rintro e w3 ht
            rcases ht with ⟨hh, rfl, g3, k3⟩ | ⟨hh, rfl, g3, k3⟩
            · have W3 := Lib.hid (below_only HW2.out k3 (fun i hi => by omega))
              have HF : Hid (res = false) := by
                have h1 := hasG_true.1 hh
                rw [HO.out.fst] at h1
                rw [Hid, ← HR.out, HDU.out h1]
                simp
              clear g3 k3 hh
              go_wp2_with fail
              exact bodyPost_ret (v := .tuple #[.map none, .bool false]) (by simp [results, Tryz.results48, go_sem]) rfl ⟨W3.out, .inl ⟨HF.out, rfl⟩⟩
            · have W3 := Lib.hid (below_only HW2.out k3 (fun i hi => by omega))
              have G3 := Lib.hid g3
              have O3 : Hid (GOf w3 ((rowsPL ps ls).take (k + j + 1)) (rs ++ [(pk, .slice A3 pv.length a3)])) := by
                rw [Hid, HT.out]
                exact (O2.out.only k3 G2.out.noU8).snoc (x := (pk, pv)) (bs_only T2.out k3 (fun i hi _ => by rw [hi]; exact G2.out.noU8))
              clear g3 k3 hh
              go_wp2_with fail
              go_roundg (m - (j + 1))
              case measure => omega
              case rel => exact ⟨j + 1, rs ++ [(pk, .slice A3 pv.length a3)], by omega, rfl, by go_num, G3, O3, HTA.out.trans (by simp), by have := HRL.out; simp [Hid]; omega, W3.out⟩
          · have hp2 : (pc != 0) = true := by simpa using hp
            have HF : Hid (res = false) := by
              rw [Hid, ← HR.out, HBD.out (by simpa using hp)]
              rfl
            go_wp2_with fail
            exact bodyPost_ret (v := .tuple #[.map none, .bool false]) (by simp [results, Tryz.results48, go_sem]) rfl ⟨HW2.out, .inl ⟨HF.out, rfl⟩⟩
        · obtain rfl : j = m := by omega
          have j1 : ¬ (j : Int) < (j : Int) := by omega
          have hall : (rowsPL ps ls).take (k + j) = rowsPL ps ls := List.take_of_length_le (by rw [rowsPL_len, HN.out, HM.out]; omega)
          have HO2 : Hid (GOf wr (rowsPL ps ls) rs) := by rw [Hid, ← hall]; exact HO.out
          have HT : Hid (res = true) := by
            have h5 := (twice_nodup (rowsPL ps ls)).2 (by rw [← HO2.out.fst]; exact HG.out.2)
            have h6 : ls.all okL = true := by have := HA.out; rw [List.take_of_length_le (by rw [HM.out]; omega)] at this; exact this
            rw [Hid, ← HR.out, h5]
            unfold goodPL
            rw [HAP.out, h6]
            rfl
          clear hall HO
          go_wp2_with fail
          exact bodyPost_ret (v := .tuple #[.map (some w.heap.size), .bool true]) (by simp [results, Tryz.results48, go_sem]) rfl ⟨HW.out, .inr ⟨HT.out, w.heap.size, rs, rfl, Nat.le_refl _, HG.out, HO2.out⟩⟩
end Go.Proofs.YtgbjhlkjceonpaaGreat.Lst
/- The two lists of State; its first loop. -/
namespace Go.Proofs.YtgbjhlkjceonpaaGreat.Lst
open Go.RowKit Go.Proofs.YtgbjhlkjceonpaaGreat.K Go.Proofs.YtgbjhlkjceonpaaGreat.Help Go.Proofs.YtgbjhlkjceonpaaGreat.Pfx Go.Proofs.YtgbjhlkjceonpaaGreat.Peer
set_option linter.unusedVariables false

/-- State's two lists under way -/
structure S2 (w2 wr : World) (vp vl : Value) (ps : List PeerD) (ls : List LaneD) : Prop where
  p : OwnL PeerE 52 wr (fun k => vl.ownBlock = some k) w2.heap.size vp ps
  l : OwnL LaneE 59 wr (fun k => vp.ownBlock = some k) w2.heap.size vl ls
  b : Below w2.heap.size w2 wr
section
variable {w2 wr w1 : World} {vp vl v1 : Value} {ps : List PeerD} {ls : List LaneD}
theorem S2.start (w2 : World) : S2 w2 w2 (.slice none 0 0) (.slice none 0 0) [] [] := ⟨OwnL.nil _ _ _ _ _, OwnL.nil _ _ _ _ _, Below.refl _ _⟩
theorem S2.step (h : S2 w2 wr vp vl ps ls) (hb : Below wr.heap.size wr w1) : S2 w2 w1 vp vl ps ls := ⟨h.p.below hb, h.l.below hb, below_step h.b hb⟩
theorem S2.apart (h : S2 w2 wr vp vl ps ls) (i : Nat) (h1 : vl.ownBlock = some i) : ¬ vp.ownBlock = some i := fun h2 => by
  obtain ⟨c1, e1⟩ := h.l.blk h1
  obtain ⟨c2, e2⟩ := h.p.blk h2
  exact blk_ne e1 e2 (by decide) rfl
theorem S2.pushP (h : S2 w2 wr vp vl ps ls) {x : PeerD} (o : OwnL PeerE 52 w1 (fun k => vl.ownBlock = some k) w2.heap.size v1 (ps ++ [x])) (k : Only wr w1 (fun k => vp.ownBlock = some k)) (hn : ∀ i, v1.ownBlock = some i → vp.ownBlock = some i ∨ wr.heap.size ≤ i) :
    S2 w2 w1 v1 vl (ps ++ [x]) ls := by
  refine ⟨o, ?_, below_only h.b k (fun i hi => h.p.base_le hi)⟩
  have h1 := h.l.reno (N' := fun k => vp.ownBlock = some k ∨ v1.ownBlock = some k) (fun i hi => hi.elim .inl (hn i))
  exact (h1.only k (fun i hi => h.apart i hi) (fun i _ hi => .inl hi)).reno (fun i hi => .inl (.inr hi))
theorem S2.pushL (h : S2 w2 wr vp vl ps ls) {x : LaneD} (o : OwnL LaneE 59 w1 (fun k => vp.ownBlock = some k) w2.heap.size v1 (ls ++ [x])) (k : Only wr w1 (fun k => vl.ownBlock = some k)) (hn : ∀ i, v1.ownBlock = some i → vl.ownBlock = some i ∨ wr.heap.size ≤ i) :
    S2 w2 w1 vp v1 ps (ls ++ [x]) := by
  refine ⟨?_, o, below_only h.b k (fun i hi => h.l.base_le hi)⟩
  have h1 := h.p.reno (N' := fun k => vl.ownBlock = some k ∨ v1.ownBlock = some k) (fun i hi => hi.elim .inl (hn i))
  exact (h1.only k (fun i hi h2 => h.apart i h2 hi) (fun i _ hi => .inl hi)).reno (fun i hi => .inl (.inr hi))
theorem S2.freshP (h : S2 w2 wr vp vl ps ls) {A B : Option Addr} {a b : Nat} {x : PeerD} (h1 : Bs w1 A a x.key) (h2 : Ps w1 B b x.ps) (n1 : Nw wr A) (n2 : Nw wr B) :
    PeerE.R w1 (fun k => vl.ownBlock = some k ∨ vp.ownBlock = some k) [Value.int .i64 x.link, .slice A x.key.length a, .slice B x.ps.length b] x := by
  have hN : ∀ i, (vl.ownBlock = some i ∨ vp.ownBlock = some i) → i < wr.heap.size := fun i hi => hi.elim (fun e => h.l.lt e) (fun e => h.p.lt e)
  exact ⟨A, a, B, b, rfl, Bs.fresh h1 n1 hN, Ps.fresh h2 n2 hN⟩
theorem S2.freshL (h : S2 w2 wr vp vl ps ls) {A : Option Addr} {a : Nat} {x : LaneD} (h1 : Bs w1 A a x.key) (h2 : LaneB x) (n1 : Nw wr A) :
    LaneE.R w1 (fun k => vp.ownBlock = some k ∨ vl.ownBlock = some k) [Value.slice A x.key.length a, .int .i64 x.side, .int .i64 x.cur, .int .i64 x.next, .int .u64 (x.sc : Int), .int .u64 (x.ceil : Int), .int .i64 x.sec, .int .i64 x.nano] x := by
  have hN : ∀ i, (vp.ownBlock = some i ∨ vl.ownBlock = some i) → i < wr.heap.size := fun i hi => hi.elim (fun e => h.p.lt e) (fun e => h.l.lt e)
  exact ⟨A, a, rfl, Bs.fresh h1 n1 hN, h2⟩
theorem S2.fill (h : S2 w2 wr vp vl ps ls) {w5 wf : World} {g : Nat} (hb : Below wr.heap.size wr w5) (k : Only w5 wf (fun i => i = g)) (hg : wr.heap.size ≤ g) : S2 w2 wf vp vl ps ls := by
  have h1 := h.p.reno (N' := fun k => vl.ownBlock = some k ∨ k = g) (fun i hi => hi.elim .inl (fun e => .inr (by omega)))
  have h2 := h.l.reno (N' := fun k => vp.ownBlock = some k ∨ k = g) (fun i hi => hi.elim .inl (fun e => .inr (by omega)))
  refine ⟨?_, ?_, below_only (below_step h.b hb) k (fun i hi => by have := h.b.size; omega)⟩
  · exact ((h1.below hb).only k (fun i hi e => by have := h.p.lt hi; omega) (fun i _ hi => .inr hi)).reno (fun i hi => .inl (.inl hi))
  · exact ((h2.below hb).only k (fun i hi e => by have := h.l.lt hi; omega) (fun i _ hi => .inr hi)).reno (fun i hi => .inl (.inl hi))
theorem S2.boxP (h : S2 w2 wr vp vl ps ls) {w5 : World} {g : Nat} (hb : Below wr.heap.size wr w5) (hg : wr.heap.size ≤ g) (hx : PBox w5 g 0 none 0 0 none 0 0) {A B : Option Addr} {a b : Nat} {x : PeerD} (h1 : Bs w5 A a x.key) (h2 : Ps w5 B b x.ps) (n1 : Nw wr A) (n2 : Nw wr B) :
    S2 w2 (fill3 w5 g x.link A x.key.length a B x.ps.length b) vp vl ps ls ∧ PBox (fill3 w5 g x.link A x.key.length a B x.ps.length b) g x.link A x.key.length a B x.ps.length b
    ∧ PeerE.R (fill3 w5 g x.link A x.key.length a B x.ps.length b) (fun k => vl.ownBlock = some k ∨ vp.ownBlock = some k) [Value.int .i64 x.link, .slice A x.key.length a, .slice B x.ps.length b] x ∧ (fill3 w5 g x.link A x.key.length a B x.ps.length b).heap.size = w5.heap.size := by
  have hf := hx.fill x.link A x.key.length a B x.ps.length b
  exact ⟨h.fill hb hf.2 hg, hf.1, h.freshP (hx.bs h1 hf.2) (hx.ps h2 hf.2) n1 n2, by simp [fill3]⟩
theorem S2.boxL (h : S2 w2 wr vp vl ps ls) {w5 : World} {g : Nat} (hb : Below wr.heap.size wr w5) (hg : wr.heap.size ≤ g) (hx : w5.heap[g]? = some (.cells (lnC none 0 0 0 0 0 0 0 0 0) 59 (0, 0))) {A : Option Addr} {a : Nat} {x : LaneD} (h1 : Bs w5 A a x.key) (h2 : LaneB x) (n1 : Nw wr A) :
    S2 w2 (fill8 w5 g A x.key.length a x.side x.cur x.next x.sc x.ceil x.sec x.nano) vp vl ps ls ∧ (fill8 w5 g A x.key.length a x.side x.cur x.next x.sc x.ceil x.sec x.nano).heap[g]? = some (.cells (lnC A x.key.length a x.side x.cur x.next x.sc x.ceil x.sec x.nano) 59 (0, 0))
    ∧ LaneE.R (fill8 w5 g A x.key.length a x.side x.cur x.next x.sc x.ceil x.sec x.nano) (fun k => vp.ownBlock = some k ∨ vl.ownBlock = some k) [Value.slice A x.key.length a, .int .i64 x.side, .int .i64 x.cur, .int .i64 x.next, .int .u64 (x.sc : Int), .int .u64 (x.ceil : Int), .int .i64 x.sec, .int .i64 x.nano] x
    ∧ (fill8 w5 g A x.key.length a x.side x.cur x.next x.sc x.ceil x.sec x.nano).heap.size = w5.heap.size := by
  have h0 : RB wr w5 (fun k => k = g) A a x.key g 59 (lnC none 0 0 0 0 0 0 0 0 0) := ⟨hx, lnC_noU8 _ _ _ _ _ _ _ _ _ _, h1, Only.of_below hb _, hg⟩
  have hf := h0.fill8 A x.key.length a x.side x.cur x.next x.sc x.ceil x.sec x.nano
  have ho : Only w5 (fill8 w5 g A x.key.length a x.side x.cur x.next x.sc x.ceil x.sec x.nano) (fun k => k = g) := by
    unfold fill8
    exact ((((((((Only.refl w5 (fun k => k = g)).setCell (p := ⟨g, 0, none⟩) (.inl rfl) _).setCell (p := ⟨g, 1, none⟩) (.inl rfl) _).setCell (p := ⟨g, 2, none⟩) (.inl rfl) _).setCell (p := ⟨g, 3, none⟩) (.inl rfl) _).setCell (p := ⟨g, 4, none⟩) (.inl rfl) _).setCell (p := ⟨g, 5, none⟩) (.inl rfl) _).setCell (p := ⟨g, 6, none⟩) (.inl rfl) _).setCell (p := ⟨g, 7, none⟩) (.inl rfl) _
  exact ⟨h.fill hb ho hg, hf.r, h.freshL hf.bs h2 n1, by simp [fill8]⟩
end
theorem blk_new2 (w : World) (q1 q2 : Obj) : ((w.alloc q1).alloc q2).heap[w.heap.size + 1]? = some q2 := by
  have := blk_new (w.alloc q1) q2
  simpa using this
theorem stepK_some (l : List RowD) (s : T3) (k : List UInt8) : stepK l (some s) k = stepO s k (valOf l k) := rfl
theorem getBoots2 (A B : Option Addr) (c d : Nat) (k v : List UInt8) (w : World) (ha : Bs w A c k) (hb : Bs w B d v) :
    Calls Tryz.prog 32 #[.agg #[.slice A k.length c, .slice B v.length d]] w (Pure w (.tuple #[.int .i64 (bootsGet k v).1, .int .i64 (bootsGet k v).2])) := by
  have h := getBoots_any A B c d k v w ha hb
  rw [takes_rd, readAs_boots] at h
  exact h
set_option maxRecDepth 100000 in
set_option maxHeartbeats 40000000 in
theorem state_any (A : Option Addr) (c : Nat) (l : List RowD) (w : World) (hl : Lst RowE w (fun _ => False) A c l) (hn : l.length ≤ 900) :
    Calls Tryz.prog 6 #[.slice A l.length c] w (RetS w (progState l)) := by
  have HL := Lib.hid hl
  have h1 := hl.le
  have h2 := hl.max
  clear hl
  generalize hr : progState l = res
  have HR := Lib.hid hr
  clear hr
  unfold progState at HR
  have HB0 := Lib.hid (below_alloc (Below.refl w.heap.size w) (.map #[] 0))
  have HM0 : Hid (GMap (w.alloc (.map #[] 0)) w.heap.size []) := Lib.hid ⟨World.ownsMap_made w _ _ _, by simp⟩
  generalize hm : l.length = n at *
  have HN := Lib.hid hm
  clear hm
  have hmk : (Instr.makeMap 62 none).run Tryz.prog w = .ok (.map (some w.heap.size)) (w.alloc (.map #[] 0)) := rfl
  go_enter Tryz.func6, Tryz.ntmps6
  go_wp2_with fail
  go_loopg [21] n (fun gk i wr => ∃ (k : Nat) (rs : List GRow), k ≤ n ∧ gk = n - k ∧ i = .int .i64 (k : Int) ∧ Hid (GMap wr w.heap.size rs) ∧ Hid (GOf w (l.take k) rs) ∧ Below w.heap.size w wr)
  case atStart => exact ⟨0, [], by omega, rfl, rfl, HM0, GOf.nil w, HB0.out⟩
  case round =>
    obtain ⟨k, rs, hk, rfl, rfl, HG, HO, hb⟩ := hrel
    have HW := Lib.hid hb
    clear hb
    by_cases hlt : k < n
    · have i1 : (k : Int) < (n : Int) := by omega
      have i0 : (0 : Int) ≤ (k : Int) := by omega
      obtain ⟨bk, off, A2, a2, B2, b2, rfl, hbk, c0, c1, s1, s2⟩ := HL.out.row k _ (getD_get zR (by rw [HN.out]; exact hlt))
      have HTK : Hid (l.take (k + 1) = l.take k ++ [l.getD k zR]) := Lib.hid (by
        have hk : k < l.length := by rw [HN.out]; exact hlt
        rw [List.take_succ_eq_append_getElem hk]; simp [hk])
      obtain ⟨⟨xk, xv⟩, hx⟩ : ∃ y, l.getD k zR = y := ⟨_, rfl⟩
      rw [hx] at c0 c1 s1 s2 HTK
      dsimp only at c0 c1 s1 s2
      have S1 := Lib.hid s1.1
      have S2 := Lib.hid s2.1
      have y0 : wr.cell? ⟨bk, off + k * 2, none⟩ = some (.slice A2 xk.length a2) := (HW.out.cell (p := ⟨bk, _, none⟩) hbk).trans c0
      have y1 : wr.cell? ⟨bk, off + k * 2 + 1, none⟩ = some (.slice B2 xv.length b2) := (HW.out.cell (p := ⟨bk, _, none⟩) hbk).trans c1
      have HX := Lib.hid hx
      clear c0 c1 s1 s2 hx hbk
      have hrl : rs.length ≤ 1000 := by
        have := HO.out.1
        rw [List.length_take, HN.out] at this
        omega
      have HRL := Lib.hid hrl
      have W1 := Lib.hid (below_alloc (Below.refl wr.heap.size wr) (.cells #[Value.slice A2 xk.length a2, .slice B2 xv.length b2] 64))
      have T := Lib.hid (take_any w.heap.size rs A2 B2 a2 b2 xv.length xk (wr.alloc (.cells #[Value.slice A2 xk.length a2, .slice B2 xv.length b2] 64)) (HG.out.keep W1.out) (S1.out.below (below_step HW.out W1.out)) hrl)
      clear hrl
      go_wp2_with fail
      refine T.out.mono ?_
      rintro e w3 ht
      rcases ht with ⟨hh, rfl, g3, k3⟩ | ⟨hh, rfl, g3, k3⟩
      · have W3 := Lib.hid (below_only (below_step HW.out W1.out) k3 (fun i hi => by omega))
        have HH := Lib.hid hh
        clear g3 k3 hh
        go_wp2_with fail
        have HE : res = ([], [], 0, 114) := by
          rw [← HR.out, if_neg]
          intro hnd
          have hmem := hasG_true.1 HH.out
          rw [HO.out.fst] at hmem
          rw [← List.take_append_drop (k + 1) l, HTK.out, List.map_append, List.map_append] at hnd
          have h3 := (List.nodup_append.1 (List.nodup_append.1 hnd).1).2.2
          exact h3 _ hmem _ (by simp) rfl
        exact bodyPost_ret (v := .tuple #[.slice none 0 0, .slice none 0 0, .int .i64 0, .int .i64 114]) (by simp [results, Tryz.results6, go_sem]) rfl ⟨none, 0, none, 0, by rw [HE]; rfl, by rw [HE]; exact Lst.nil _ _, by rw [HE]; exact Lst.nil _ _, W3.out⟩
      · have W3 := Lib.hid (below_only (below_step HW.out W1.out) k3 (fun i hi => by omega))
        have G3 := Lib.hid g3
        clear g3 k3 hh
        go_wp2_with fail
        go_roundg (n - (k + 1))
        case measure => omega
        case rel => exact ⟨k + 1, rs ++ [(xk, .slice B2 xv.length b2)], by omega, rfl, by go_num, G3, by rw [HTK.out]; exact HO.out.snoc (x := (xk, xv)) S2.out, W3.out⟩
    · obtain rfl : k = n := by omega
      have i1 : ¬ (k : Int) < (k : Int) := by omega
      have htk : l.take k = l := List.take_of_length_le (by rw [HN.out]; omega)
      have HO2 : Hid (GOf w l rs) := by rw [← htk]; exact HO
      clear htk HO
      have hrl : rs.length ≤ 1000 := by
        have := HO2.out.1
        rw [HN.out] at this
        omega
      have KY := Lib.hid (keys_any w.heap.size rs wr HG.out hrl)
      have HKS : Hid (keysOf rs = keysL l) := by rw [Hid]; unfold keysOf keysL; rw [HO2.out.fst]
      rw [HKS.out] at KY
      have HKM : Hid (∀ x, x ∈ keysL l → x ∈ l.map Prod.fst) := Lib.hid (fun x hx => (List.mergeSort_perm _ _).mem_iff.1 hx)
      have HKL : Hid ((keysL l).length = k) := Lib.hid (by unfold keysL; simp [HN.out])
      clear hrl HKS
      unfold foldK at HR
      have HFS := Lib.hid (foldK_step l (keysL l) (some ([], [], 0)))
      have HFX := Lib.hid (foldK_stop l (keysL l) (some ([], [], 0)))
      have hnd : (l.map Prod.fst).Nodup := by rw [← HO2.out.fst]; exact HG.out.2
      rw [if_pos hnd] at HR
      clear hnd
      generalize keysL l = ks at *
      go_wp2_with fail
      refine KY.out.mono ?_
      rintro e w2 ⟨KA, kc, rfl, hkl, hb2⟩
      have HKK := Lib.hid hkl
      have W2 := Lib.hid (below_step HW.out hb2)
      have G2 := Lib.hid (HG.out.keep hb2)
      have hkc := hkl.le
      have hkc2 := hkl.max
      have HS2 := Lib.hid (S2.start w2)
      clear hkl hb2 KY HG HM0 HB0
      generalize hm : ks.length = m at *
      have HM := Lib.hid hm
      clear hm
      go_wp2_with fail
      go_loopg [33, 9, 10, 11] m (fun gk i s9 s10 s11 wr => ∃ (j : Nat) (ps : List PeerD) (ls : List LaneD) (bo : Int), j ≤ m ∧ gk = m - j ∧ i = .int .i64 (j : Int) ∧ s11 = .int .i64 bo ∧ Hid ((ks.take j).foldl (stepK l) (some ([], [], 0)) = some (ps, ls, bo)) ∧ Hid (ps.length ≤ j ∧ ls.length ≤ j) ∧ Hid (S2 w2 wr s9 s10 ps ls))
      case atStart => exact ⟨0, [], [], 0, by omega, rfl, rfl, rfl, rfl, ⟨by simp, by simp⟩, HS2.out⟩
      case round =>
        clear HS2
        obtain ⟨j, ps, ls, bo, hj, rfl, rfl, rfl, HF, HLn, HS⟩ := hrel
        obtain ⟨A1, a1, rfl⟩ := HS.out.p.slice
        obtain ⟨B1, b1, rfl⟩ := HS.out.l.slice
        by_cases hjt : j < m
        · have j1 : (j : Int) < (m : Int) := by omega
          have j0 : (0 : Int) ≤ (j : Int) := by omega
          have HST := Lib.hid (HFS.out j hjt)
          rw [HF.out] at HST
          have hkk : ks[j]? = some (ks.getD j []) := getD_get [] (by rw [HM.out]; exact hjt)
          obtain ⟨bk, off, raw, rfl, hbk, -, hc, hraw⟩ := HKK.out.at_ j _ hkk
          have hmem := HKM.out _ (List.mem_of_getElem? hkk)
          obtain ⟨kk, hx⟩ : ∃ y, ks.getD j [] = y := ⟨_, rfl⟩
          rw [hx] at hmem hraw HST
          cases hraw
          have y0 : wr.cell? ⟨bk, off + j, none⟩ = some (.string ⟨kk.toArray⟩) := by
            have := (HS.out.b.cell (p := ⟨bk, off + j * 1 + 0, none⟩) hbk).trans (hc 0 (by decide))
            simpa [encStr] using this
          obtain ⟨VB, vb, hlook, hvb⟩ := find_pair kk l rs HO2.out hmem
          have hkl : kk.length ≤ 140737488355328 := by
            obtain ⟨x, hxm, rfl⟩ := List.mem_map.1 hmem
            obtain ⟨i, hi, rfl⟩ := List.mem_iff_getElem.1 hxm
            obtain ⟨_, _, _, _, _, _, _, _, _, _, s1, _⟩ := HL.out.row i _ (List.getElem?_eq_getElem hi)
            exact s1.1.max
          have hkm : kk.length ≤ maxLen := by simp only [maxLen]; omega
          have HKM2 := Lib.hid hkm
          have W3 := Lib.hid (below_step W2.out HS.out.b)
          obtain ⟨cap, w3, hcv, hs3, hb3⟩ := bytes_of wr kk hkl
          have bw3 := Lib.hid hb3
          rw [stepK_some] at HST
          generalize valOf l kk = vv at *
          have S3 := Lib.hid hs3
          have HS3 := Lib.hid (HS.out.step hb3)
          have G3 := Lib.hid ((G2.out.keep HS.out.b).keep hb3)
          have V3 := Lib.hid (hvb.below (below_step W3.out hb3))
          have HLK := Lib.hid hlook
          clear hs3 hb3 hlook hvb hkl hkm hmem hx hkk hc
          rcases hkc : kk with _ | ⟨c0, t⟩
          · have hnil : (kk == []) = true := by simp [hkc]
            have HE : Hid (res = ([], [], 0, 114)) := by
              rw [Hid, ← HR.out, HFX.out (j + 1) (by rw [HST.out, hkc]; rfl)]
              rfl
            clear hkc
            go_wp2_with (first
              | (at_lookup; refine look_v rfl _ _ rfl rfl G3.out kk rfl HKM2.out ?_; rw [HLK.out])
              | go_in)
            exact bodyPost_ret (v := .tuple #[.slice none 0 0, .slice none 0 0, .int .i64 0, .int .i64 114]) (by simp [results, Tryz.results6, go_sem]) rfl ⟨none, 0, none, 0, by rw [HE.out]; rfl, by rw [HE.out]; exact Lst.nil _ _, by rw [HE.out]; exact Lst.nil _ _, (below_step W3.out (below_step bw3.out (below_alloc (Below.refl _ _) _)))⟩
          · have hnil : (kk == []) = false := by simp [hkc]
            have hix : ∀ W : World, (Instr.index 9 (.string ⟨kk.toArray⟩) (.int .i64 0)).run Tryz.prog W = .ok (.int .u8 (c0.toNat : Int)) W := fun W => by
              rw [run_index_string W _ _ _ _ u_str, dif_pos (by rw [hkc]; simp [ByteArray.size])]
              simp only [hkc]
              rfl
            have HKC := Lib.hid hkc
            clear hkc
            rw [HKC.out] at HST
            unfold stepO at HST
            dsimp only at HST
            rw [← HKC.out] at HST
            have HR3 := Lib.hid (below_alloc (Below.refl w3.heap.size w3) (.cells #[Value.slice (some ⟨wr.heap.size, 0, none⟩) kk.length cap, .slice VB vv.length vb] 64))
            have HB3 := Lib.hid (blk_new w3 (.cells #[Value.slice (some ⟨wr.heap.size, 0, none⟩) kk.length cap, .slice VB vv.length vb] 64))
            by_cases h80 : c0 = 80
            · subst h80
              rw [if_pos rfl] at HST
              have HX := Lib.hid (below_alloc HR3.out (.cells #[Value.int .i64 0, .slice none 0 0, .slice none 0 0] 52))
              have HSZ : Hid (((w3.alloc (.cells #[Value.slice (some ⟨wr.heap.size, 0, none⟩) kk.length cap, .slice VB vv.length vb] 64)).alloc (.cells #[Value.int .i64 0, .slice none 0 0, .slice none 0 0] 52)).heap.size = w3.heap.size + 2) := by rw [Hid]; simp
              have HZ := Lib.hid (blk_new2 w3 (.cells #[Value.slice (some ⟨wr.heap.size, 0, none⟩) kk.length cap, .slice VB vv.length vb] 64) (.cells #[Value.int .i64 0, .slice none 0 0, .slice none 0 0] 52))
              have P := Lib.hid (getPeer_any _ VB cap vb kk vv _ (S3.out.below HX.out) (V3.out.below HX.out))
              generalize peerGet kk vv = pg at *
              obtain ⟨pd, pc⟩ := pg
              dsimp only at HST
              go_wp2_with (first
                | (at_lookup; refine look_v rfl _ _ rfl rfl G3.out kk rfl HKM2.out ?_; rw [HLK.out]))
              refine P.out.mono ?_
              rintro e w5 ⟨A5, a5, B5, b5, rfl, s5, p5, hb5, n5, m5⟩
              unfold peerV
              dsimp only at s5 p5 n5 m5 ⊢
              have HB5 := Lib.hid (below_step HX.out hb5)
              have hx0 : PBox w5 (w3.heap.size + 1) 0 none 0 0 none 0 0 := ⟨(hb5.block _ (by rw [HSZ.out]; omega)).trans HZ.out⟩
              have HF5 := Lib.hid (HS3.out.boxP HB5.out (g := w3.heap.size + 1) (by omega) hx0 s5 p5 (n5.back (by rw [HSZ.out]; omega)) (m5.back (by rw [HSZ.out]; omega)))
              obtain ⟨r0, r1, r2, z0, z1, z2⟩ := hx0.cells
              have hf := HF5.out.2.1.cells
              unfold fill3 at hf HF5
              obtain ⟨f0, f1, f2, -, -, -⟩ := hf
              have BX5 := Lib.hid ((hb5.block _ (by rw [HSZ.out]; omega)).trans (blk_alloc HB3.out (.cells #[Value.int .i64 0, .slice none 0 0, .slice none 0 0] 52)))
              have S6 := Lib.hid (HF5.out.1.step (below_alloc (Below.refl _ _) (.cells #[Value.int .i64 pd.link, .slice A5 pd.key.length a5, .slice B5 pd.ps.length b5] 52)))
              have R6 := Lib.hid (PeerE.below HF5.out.2.2.1 (below_alloc (Below.refl _ _) (.cells #[Value.int .i64 pd.link, .slice A5 pd.key.length a5, .slice B5 pd.ps.length b5] 52)))
              have x6 := blk_new (((w5.setCell ⟨w3.heap.size + 1, 0, none⟩ (.int .i64 pd.link)).setCell ⟨w3.heap.size + 1, 1, none⟩ (.slice A5 pd.key.length a5)).setCell ⟨w3.heap.size + 1, 2, none⟩ (.slice B5 pd.ps.length b5)) (.cells #[Value.int .i64 pd.link, .slice A5 pd.key.length a5, .slice B5 pd.ps.length b5] 52)
              rw [HF5.out.2.2.2] at x6
              have X6 := Lib.hid x6
              clear x6
              clear hb5 hx0 s5 p5 n5 m5
              by_cases hp : pc = 0
              · subst hp
                rw [if_pos rfl] at HST
                go_wp2_with (at_builtin; refine push (E := PeerE) 52 23 _ 56 rfl (.tmp 55) (.tmp 57) rfl Tryz.underlying23 info_peer rfl (by decide) (by decide) (by decide) (.slice A1 ps.length a1) ps pd [Value.int .i64 pd.link, .slice A5 pd.key.length a5, .slice B5 pd.ps.length b5] w5.heap.size 1 rfl rfl S6.out.p X6.out R6.out S6.out.b.size (by have := HLn.out.1; have := HKL.out; omega) ?_ (fun _ h => S6.out.l.lt h); intro A6 c6 w6 o6 k6 n6; have S7 := Lib.hid (S6.out.pushP o6 k6 n6); clear o6 k6 n6)
                go_roundg (m - (j + 1))
                case measure => omega
                case rel => exact ⟨j + 1, ps ++ [pd], ls, bo, by omega, rfl, by go_num, rfl, HST, ⟨by have := HLn.out.1; simp; omega, by have := HLn.out.2; omega⟩, by simpa using S7⟩
              · have hp2 : (pc != 0) = true := by simpa using hp
                rw [if_neg hp] at HST
                have HE : Hid (res = ([], [], 0, 114)) := by
                  rw [Hid, ← HR.out, HFX.out (j + 1) HST.out]
                  rfl
                go_wp2_with (at_builtin; refine push (E := PeerE) 52 23 _ 56 rfl (.tmp 55) (.tmp 57) rfl Tryz.underlying23 info_peer rfl (by decide) (by decide) (by decide) (.slice A1 ps.length a1) ps pd [Value.int .i64 pd.link, .slice A5 pd.key.length a5, .slice B5 pd.ps.length b5] w5.heap.size 1 rfl rfl S6.out.p X6.out R6.out S6.out.b.size (by have := HLn.out.1; have := HKL.out; omega) ?_ (fun _ h => S6.out.l.lt h); intro A6 c6 w6 o6 k6 n6; have S7 := Lib.hid (S6.out.pushP o6 k6 n6); clear o6 k6 n6)
                exact bodyPost_ret (v := .tuple #[.slice none 0 0, .slice none 0 0, .int .i64 0, .int .i64 114]) (by simp [results, Tryz.results6, go_sem]) rfl ⟨none, 0, none, 0, by rw [HE.out]; rfl, by rw [HE.out]; exact Lst.nil _ _, by rw [HE.out]; exact Lst.nil _ _, below_step W2.out S7.out.b⟩
            · rw [if_neg h80] at HST
              have e80 : ¬ (c0.toNat : Int) = 80 := fun e => h80 (UInt8.toNat_inj.1 (by simpa using Int.ofNat_inj.1 e))
              have f80 : ((c0.toNat : Int) == 80) = false := by simpa using e80
              by_cases h76 : c0 = 76
              · subst h76
                rw [if_pos rfl] at HST
                have HX := Lib.hid (below_alloc HR3.out (.cells #[Value.slice none 0 0, .int .i64 0, .int .i64 0, .int .i64 0, .int .u64 0, .int .u64 0, .int .i64 0, .int .i64 0] 59))
                have HSZ : Hid (((w3.alloc (.cells #[Value.slice (some ⟨wr.heap.size, 0, none⟩) kk.length cap, .slice VB vv.length vb] 64)).alloc (.cells #[Value.slice none 0 0, .int .i64 0, .int .i64 0, .int .i64 0, .int .u64 0, .int .u64 0, .int .i64 0, .int .i64 0] 59)).heap.size = w3.heap.size + 2) := by rw [Hid]; simp
                have HZ := Lib.hid (blk_new2 w3 (.cells #[Value.slice (some ⟨wr.heap.size, 0, none⟩) kk.length cap, .slice VB vv.length vb] 64) (.cells #[Value.slice none 0 0, .int .i64 0, .int .i64 0, .int .i64 0, .int .u64 0, .int .u64 0, .int .i64 0, .int .i64 0] 59))
                have P := Lib.hid (getLane_any _ VB cap vb kk vv _ (S3.out.below HX.out) (V3.out.below HX.out))
                have LB := Lib.hid (laneGet_b kk vv)
                generalize laneGet kk vv = pg at *
                obtain ⟨ld, pc⟩ := pg
                dsimp only at HST LB
                go_wp2_with (first
                  | (at_lookup; refine look_v rfl _ _ rfl rfl G3.out kk rfl HKM2.out ?_; rw [HLK.out]))
                refine P.out.mono ?_
                rintro e w5 ⟨A5, a5, rfl, s5, hb5, n5⟩
                unfold laneV
                dsimp only at s5 n5 ⊢
                have HB5 := Lib.hid (below_step HX.out hb5)
                have hx0 : w5.heap[w3.heap.size + 1]? = some (.cells (lnC none 0 0 0 0 0 0 0 0 0) 59 (0, 0)) := (hb5.block _ (by rw [HSZ.out]; omega)).trans HZ.out
                have HF5 := Lib.hid (HS3.out.boxL HB5.out (g := w3.heap.size + 1) (by omega) hx0 s5 LB.out (n5.back (by rw [HSZ.out]; omega)))
                obtain ⟨r0, r1, r2, r3, r4, r5, r6, r7, z0, z1, z2, z3, z4, z5, z6, z7⟩ := zero_cells hx0
                have JJ := Lib.hid (lane_cells HF5.out.2.1)
                unfold fill8 at JJ HF5
                have S6 := Lib.hid (HF5.out.1.step (below_alloc (Below.refl _ _) (.cells #[Value.slice A5 ld.key.length a5, .int .i64 ld.side, .int .i64 ld.cur, .int .i64 ld.next, .int .u64 (ld.sc : Int), .int .u64 (ld.ceil : Int), .int .i64 ld.sec, .int .i64 ld.nano] 59)))
                have R6 := Lib.hid (LaneE.below HF5.out.2.2.1 (below_alloc (Below.refl _ _) (.cells #[Value.slice A5 ld.key.length a5, .int .i64 ld.side, .int .i64 ld.cur, .int .i64 ld.next, .int .u64 (ld.sc : Int), .int .u64 (ld.ceil : Int), .int .i64 ld.sec, .int .i64 ld.nano] 59)))
                have x6 := blk_new ((((((((w5.setCell ⟨w3.heap.size + 1, 0, none⟩ (.slice A5 ld.key.length a5)).setCell ⟨w3.heap.size + 1, 1, none⟩ (.int .i64 ld.side)).setCell ⟨w3.heap.size + 1, 2, none⟩ (.int .i64 ld.cur)).setCell ⟨w3.heap.size + 1, 3, none⟩ (.int .i64 ld.next)).setCell ⟨w3.heap.size + 1, 4, none⟩ (.int .u64 (ld.sc : Int))).setCell ⟨w3.heap.size + 1, 5, none⟩ (.int .u64 (ld.ceil : Int))).setCell ⟨w3.heap.size + 1, 6, none⟩ (.int .i64 ld.sec)).setCell ⟨w3.heap.size + 1, 7, none⟩ (.int .i64 ld.nano)) (.cells #[Value.slice A5 ld.key.length a5, .int .i64 ld.side, .int .i64 ld.cur, .int .i64 ld.next, .int .u64 (ld.sc : Int), .int .u64 (ld.ceil : Int), .int .i64 ld.sec, .int .i64 ld.nano] 59)
                rw [HF5.out.2.2.2] at x6
                have X6 := Lib.hid x6
                clear x6
                clear hb5 hx0 s5 n5
                by_cases hp : pc = 0
                · subst hp
                  rw [if_pos rfl] at HST
                  go_wp2_with (at_builtin; refine push (E := LaneE) 59 24 _ 80 rfl (.tmp 68) (.tmp 70) rfl Tryz.underlying24 info_lane rfl (by decide) (by decide) (by decide) (.slice B1 ls.length b1) ls ld [Value.slice A5 ld.key.length a5, .int .i64 ld.side, .int .i64 ld.cur, .int .i64 ld.next, .int .u64 (ld.sc : Int), .int .u64 (ld.ceil : Int), .int .i64 ld.sec, .int .i64 ld.nano] w5.heap.size 1 rfl rfl S6.out.l X6.out R6.out S6.out.b.size (by have := HLn.out.2; have := HKL.out; omega) ?_ (fun _ h => S6.out.p.lt h); intro A6 c6 w6 o6 k6 n6; have S7 := Lib.hid (S6.out.pushL o6 k6 n6); clear o6 k6 n6)
                  go_roundg (m - (j + 1))
                  case measure => omega
                  case rel => exact ⟨j + 1, ps, ls ++ [ld], bo, by omega, rfl, by go_num, rfl, HST, ⟨by have := HLn.out.1; omega, by have := HLn.out.2; simp; omega⟩, by simpa using S7⟩
                · have hp2 : (pc != 0) = true := by simpa using hp
                  rw [if_neg hp] at HST
                  have HE : Hid (res = ([], [], 0, 114)) := by
                    rw [Hid, ← HR.out, HFX.out (j + 1) HST.out]
                    rfl
                  go_wp2_with (at_builtin; refine push (E := LaneE) 59 24 _ 80 rfl (.tmp 68) (.tmp 70) rfl Tryz.underlying24 info_lane rfl (by decide) (by decide) (by decide) (.slice B1 ls.length b1) ls ld [Value.slice A5 ld.key.length a5, .int .i64 ld.side, .int .i64 ld.cur, .int .i64 ld.next, .int .u64 (ld.sc : Int), .int .u64 (ld.ceil : Int), .int .i64 ld.sec, .int .i64 ld.nano] w5.heap.size 1 rfl rfl S6.out.l X6.out R6.out S6.out.b.size (by have := HLn.out.2; have := HKL.out; omega) ?_ (fun _ h => S6.out.p.lt h); intro A6 c6 w6 o6 k6 n6; have S7 := Lib.hid (S6.out.pushL o6 k6 n6); clear o6 k6 n6)
                  exact bodyPost_ret (v := .tuple #[.slice none 0 0, .slice none 0 0, .int .i64 0, .int .i64 114]) (by simp [results, Tryz.results6, go_sem]) rfl ⟨none, 0, none, 0, by rw [HE.out]; rfl, by rw [HE.out]; exact Lst.nil _ _, by rw [HE.out]; exact Lst.nil _ _, below_step W2.out S7.out.b⟩
              · rw [if_neg h76] at HST
                have e76 : ¬ (c0.toNat : Int) = 76 := fun e => h76 (UInt8.toNat_inj.1 (by simpa using Int.ofNat_inj.1 e))
                have f76 : ((c0.toNat : Int) == 76) = false := by simpa using e76
                by_cases h66 : c0 = 66
                · subst h66
                  rw [if_pos rfl] at HST
                  have P := Lib.hid (getBoots2 _ VB cap vb kk vv _ (S3.out.below HR3.out) (V3.out.below HR3.out))
                  generalize bootsGet kk vv = pg at *
                  obtain ⟨bn, pc⟩ := pg
                  dsimp only at HST P
                  go_wp2_with (first
                    | (at_lookup; refine look_v rfl _ _ rfl rfl G3.out kk rfl HKM2.out ?_; rw [HLK.out]))
                  refine P.out.mono ?_
                  rintro e w5 ⟨rfl, hb5⟩
                  have S7 := Lib.hid (HS3.out.step (below_step HR3.out hb5))
                  clear hb5
                  by_cases hp : pc = 0
                  · subst hp
                    rw [if_pos rfl] at HST
                    go_wp2_with fail
                    go_roundg (m - (j + 1))
                    case measure => omega
                    case rel => exact ⟨j + 1, ps, ls, bn, by omega, rfl, by go_num, rfl, HST, ⟨by have := HLn.out.1; omega, by have := HLn.out.2; omega⟩, S7⟩
                  · have hp2 : (pc != 0) = true := by simpa using hp
                    rw [if_neg hp] at HST
                    have HE : Hid (res = ([], [], 0, 114)) := by
                      rw [Hid, ← HR.out, HFX.out (j + 1) HST.out]
                      rfl
                    go_wp2_with fail
                    exact bodyPost_ret (v := .tuple #[.slice none 0 0, .slice none 0 0, .int .i64 0, .int .i64 114]) (by simp [results, Tryz.results6, go_sem]) rfl ⟨none, 0, none, 0, by rw [HE.out]; rfl, by rw [HE.out]; exact Lst.nil _ _, by rw [HE.out]; exact Lst.nil _ _, below_step W2.out S7.out.b⟩
                · rw [if_neg h66] at HST
                  have e66 : ¬ (c0.toNat : Int) = 66 := fun e => h66 (UInt8.toNat_inj.1 (by simpa using Int.ofNat_inj.1 e))
                  have f66 : ((c0.toNat : Int) == 66) = false := by simpa using e66
                  have HE : Hid (res = ([], [], 0, 114)) := by
                    rw [Hid, ← HR.out, HFX.out (j + 1) HST.out]
                    rfl
                  go_wp2_with (first
                    | (at_lookup; refine look_v rfl _ _ rfl rfl G3.out kk rfl HKM2.out ?_; rw [HLK.out]))
                  exact bodyPost_ret (v := .tuple #[.slice none 0 0, .slice none 0 0, .int .i64 0, .int .i64 114]) (by simp [results, Tryz.results6, go_sem]) rfl ⟨none, 0, none, 0, by rw [HE.out]; rfl, by rw [HE.out]; exact Lst.nil _ _, by rw [HE.out]; exact Lst.nil _ _, (below_step W3.out (below_step bw3.out (below_alloc (Below.refl _ _) _)))⟩
        · obtain rfl : j = m := by omega
          have j1 : ¬ (j : Int) < (j : Int) := by omega
          have htk : ks.take j = ks := List.take_of_length_le (by rw [HM.out]; omega)
          have HF2 := HF.out
          rw [htk] at HF2
          have HR2 := HR.out
          rw [HF2] at HR2
          unfold ansK at HR2
          dsimp only at HR2
          obtain ⟨A7, a7, e7, l7⟩ := HS.out.p.lst (fun i h h2 => HS.out.apart i h2 h)
          obtain ⟨B7, b7, e8, l8⟩ := HS.out.l.lst (fun i h h2 => HS.out.apart i h h2)
          cases e7
          cases e8
          have V := Lib.hid (sound_any A1 B1 a1 b1 ps ls wr l7.free l8.free)
          have P7 := Lib.hid l7.free
          have Q7 := Lib.hid l8.free
          have W7 := Lib.hid (below_step W2.out HS.out.b)
          generalize wholeB ps ls = wb at *
          have HRR := Lib.hid HR2
          clear htk HF2 HR2 l7 l8
          cases wb
          · have HE : Hid (res = ([], [], 0, 114)) := by rw [Hid, ← HRR.out]; rfl
            go_wp2_with fail
            refine V.out.mono ?_
            rintro e w5 ⟨rfl, hb5⟩
            have W8 := Lib.hid (below_step W7.out hb5)
            clear hb5
            go_wp2_with fail
            exact bodyPost_ret (v := .tuple #[.slice none 0 0, .slice none 0 0, .int .i64 0, .int .i64 114]) (by simp [results, Tryz.results6, go_sem]) rfl ⟨none, 0, none, 0, by rw [HE.out]; rfl, by rw [HE.out]; exact Lst.nil _ _, by rw [HE.out]; exact Lst.nil _ _, W8.out⟩
          · have HE : Hid (res = (ps, ls, bo, 0)) := by rw [Hid, ← HRR.out]; rfl
            go_wp2_with fail
            refine V.out.mono ?_
            rintro e w5 ⟨rfl, hb5⟩
            have W8 := Lib.hid (below_step W7.out hb5)
            have P8 := Lib.hid (P7.out.below hb5)
            have Q8 := Lib.hid (Q7.out.below hb5)
            clear hb5
            go_wp2_with fail
            exact bodyPost_ret (v := .tuple #[.slice A1 ps.length a1, .slice B1 ls.length b1, .int .i64 bo, .int .i64 0]) (by simp [results, Tryz.results6, go_sem]) rfl ⟨A1, a1, B1, b1, by rw [HE.out], by rw [HE.out]; exact P8.out, by rw [HE.out]; exact Q8.out, W8.out⟩
end Go.Proofs.YtgbjhlkjceonpaaGreat.Lst
/- Peers, lanes and a case as they come in. -/
namespace Go.Proofs.YtgbjhlkjceonpaaGreat.Lst
open Go.ChangeShapes Go.WideShapes Go.ChangeAt Go.RowKit Go.Proofs.YtgbjhlkjceonpaaGreat.K Go.Proofs.YtgbjhlkjceonpaaGreat.Help Go.Proofs.YtgbjhlkjceonpaaGreat.Pfx Go.Proofs.YtgbjhlkjceonpaaGreat.Peer
set_option linter.unusedVariables false

set_option maxRecDepth 100000 in
theorem trod_peers {H : Type} {enc : TypeId × Value → H} {W : World} {fuel : Nat} {cs : List Value} {y : DataW H × List MemPlace} (h : DataW.trod enc Tryz.prog W 0 (fun _ => true) true fuel 23 cs = some y) (hz : Small y.1 23) :
    ∃ A c l, cs = [.slice A l.length c] ∧ Lst PeerE W (fun _ => False) A c l := by
  refine trod_list PeerE Tryz.underlying23 cellsOf_peer (by decide) (fun n cs z hn hsm => ?_) h hz
  obtain ⟨xs, n', _, hx, hl, hxs, hfl⟩ := DataW.trod_struct Tryz.underlying52 hn
  rw [cellsOf_peer] at hl
  match cs, hl with
  | [c0, c1, c2], _ =>
    have f0 : DataW.trod enc Tryz.prog W 0 (fun _ => true) true n' 3 (([c0, c1, c2].drop 0).take (Tryz.prog.cellsOf 3)) = xs[0]? := hfl 0 _ rfl
    have f1 : DataW.trod enc Tryz.prog W 0 (fun _ => true) true n' 49 (([c0, c1, c2].drop 1).take (Tryz.prog.cellsOf 49)) = xs[1]? := hfl 1 _ rfl
    have f2 : DataW.trod enc Tryz.prog W 0 (fun _ => true) true n' 50 (([c0, c1, c2].drop 2).take (Tryz.prog.cellsOf 50)) = xs[2]? := hfl 2 _ rfl
    rw [cellsOf_int] at f0
    rw [cellsOf_bytes] at f1
    rw [cellsOf_pfxs] at f2
    have hxl : xs.length = 3 := hxs
    match xs, hxl with
    | [y0, y1, y2], _ =>
      have hd : z.1 = .agg [y0.1, y1.1, y2.1] := by rw [hx]; rfl
      have w1 : Small y1.1 49 := fun n hn => hsm n (by rw [hd]; simp only [DataW.weights, Tryz.underlying52]; simp [DataW.weightsEach]; exact .inr (.inl hn))
      obtain ⟨z0, e0, _, q0⟩ := DataW.trod_int Tryz.underlying3 f0
      obtain ⟨A, a, k, e1, s1⟩ := trod_bytes f1 w1
      obtain ⟨B, b, l, e2, s2⟩ := trod_pfxs f2
      simp at e0 e1 e2
      subst e0 e1 e2
      exact ⟨⟨z0, k, l⟩, A, a, B, b, rfl, Bs.bsn s1, Ps.psn s2⟩
set_option maxRecDepth 100000 in
theorem trod_lanes {H : Type} {enc : TypeId × Value → H} {W : World} {fuel : Nat} {cs : List Value} {y : DataW H × List MemPlace} (h : DataW.trod enc Tryz.prog W 0 (fun _ => true) true fuel 24 cs = some y) (hz : Small y.1 24) :
    ∃ A c l, cs = [.slice A l.length c] ∧ Lst LaneE W (fun _ => False) A c l := by
  refine trod_list LaneE Tryz.underlying24 cellsOf_lane (by decide) (fun n cs z hn hsm => ?_) h hz
  obtain ⟨xs, n', _, hx, hl, hxs, hfl⟩ := DataW.trod_struct Tryz.underlying59 hn
  rw [cellsOf_lane] at hl
  match cs, hl with
  | [c0, c1, c2, c3, c4, c5, c6, c7], _ =>
    have f0 : DataW.trod enc Tryz.prog W 0 (fun _ => true) true n' 49 (([c0, c1, c2, c3, c4, c5, c6, c7].drop 0).take (Tryz.prog.cellsOf 49)) = xs[0]? := hfl 0 _ rfl
    have f1 : DataW.trod enc Tryz.prog W 0 (fun _ => true) true n' 3 (([c0, c1, c2, c3, c4, c5, c6, c7].drop 1).take (Tryz.prog.cellsOf 3)) = xs[1]? := hfl 1 _ rfl
    have f2 : DataW.trod enc Tryz.prog W 0 (fun _ => true) true n' 3 (([c0, c1, c2, c3, c4, c5, c6, c7].drop 2).take (Tryz.prog.cellsOf 3)) = xs[2]? := hfl 2 _ rfl
    have f3 : DataW.trod enc Tryz.prog W 0 (fun _ => true) true n' 3 (([c0, c1, c2, c3, c4, c5, c6, c7].drop 3).take (Tryz.prog.cellsOf 3)) = xs[3]? := hfl 3 _ rfl
    have f4 : DataW.trod enc Tryz.prog W 0 (fun _ => true) true n' 55 (([c0, c1, c2, c3, c4, c5, c6, c7].drop 4).take (Tryz.prog.cellsOf 55)) = xs[4]? := hfl 4 _ rfl
    have f5 : DataW.trod enc Tryz.prog W 0 (fun _ => true) true n' 55 (([c0, c1, c2, c3, c4, c5, c6, c7].drop 5).take (Tryz.prog.cellsOf 55)) = xs[5]? := hfl 5 _ rfl
    have f6 : DataW.trod enc Tryz.prog W 0 (fun _ => true) true n' 57 (([c0, c1, c2, c3, c4, c5, c6, c7].drop 6).take (Tryz.prog.cellsOf 57)) = xs[6]? := hfl 6 _ rfl
    rw [cellsOf_bytes] at f0
    rw [cellsOf_int] at f1 f2 f3
    rw [cellsOf_u64] at f4 f5
    rw [cellsOf_stamp] at f6
    have hxl : xs.length = 7 := hxs
    match xs, hxl with
    | [y0, y1, y2, y3, y4, y5, y6], _ =>
      have hd : z.1 = .agg [y0.1, y1.1, y2.1, y3.1, y4.1, y5.1, y6.1] := by rw [hx]; rfl
      have w0 : Small y0.1 49 := fun n hn => hsm n (by rw [hd]; simp only [DataW.weights, Tryz.underlying59]; simp [DataW.weightsEach]; exact .inl hn)
      obtain ⟨A, a, k, e0, s0⟩ := trod_bytes f0 w0
      obtain ⟨z1, e1, _, q1⟩ := DataW.trod_int Tryz.underlying3 f1
      obtain ⟨z2, e2, _, q2⟩ := DataW.trod_int Tryz.underlying3 f2
      obtain ⟨z3, e3, _, q3⟩ := DataW.trod_int Tryz.underlying3 f3
      obtain ⟨z4, e4, _, q4⟩ := DataW.trod_int Tryz.underlying55 f4
      obtain ⟨z5, e5, _, q5⟩ := DataW.trod_int Tryz.underlying55 f5
      obtain ⟨ys, n2, _, _, _, hys, hfs⟩ := DataW.trod_struct Tryz.underlying57 f6
      have g0 : DataW.trod enc Tryz.prog W 0 (fun _ => true) true n2 3 (([c6, c7].drop 0).take (Tryz.prog.cellsOf 3)) = ys[0]? := hfs 0 _ rfl
      have g1 : DataW.trod enc Tryz.prog W 0 (fun _ => true) true n2 3 (([c6, c7].drop 1).take (Tryz.prog.cellsOf 3)) = ys[1]? := hfs 1 _ rfl
      rw [cellsOf_int] at g0 g1
      have hyl : ys.length = 2 := hys
      match ys, hyl with
      | [u0, u1], _ =>
        obtain ⟨z6, e6, _, q6⟩ := DataW.trod_int Tryz.underlying3 g0
        obtain ⟨z7, e7, _, q7⟩ := DataW.trod_int Tryz.underlying3 g1
        simp at e0 e1 e2 e3 e4 e5 e6 e7
        subst e0 e1 e2 e3 e4 e5 e6 e7
        obtain ⟨m4, rfl, b4⟩ := nat_u64 q4
        obtain ⟨m5, rfl, b5⟩ := nat_u64 q5
        have b6 := wf_i64 q6
        exact ⟨⟨k, z1, z2, z3, m4, m5, z6, z7⟩, A, a, rfl, Bs.bsn s0, ⟨b4, b5, b6.2⟩⟩
theorem cellsOf_case : Tryz.prog.cellsOf 37 = 4 := by kernel_rfl
theorem cellsOf_peers : Tryz.prog.cellsOf 23 = 1 := by kernel_rfl
theorem cellsOf_lanes : Tryz.prog.cellsOf 24 = 1 := by kernel_rfl
theorem arr4 {cs : Array Value} (h : cs.size = 4) : ∃ c0 c1 c2 c3, cs = #[c0, c1, c2, c3] := by
  obtain ⟨l⟩ := cs
  match l, h with
  | [c0, c1, c2, c3], _ => exact ⟨c0, c1, c2, c3, rfl⟩
/-- a case: peers, new peers, lanes, new lanes -/
def caseV (A A' B B' : Option Addr) (a a' b b' n n' m m' : Nat) : Value := .agg #[.slice A n a, .slice A' n' a', .slice B m b, .slice B' m' b']
set_option maxRecDepth 100000 in
theorem arg_case {H : Type} {enc : TypeId × Value → H} {W : World} {b0 : Nat} {v : Value} {d : DataW H} {ps : List MemPlace}
    (hval : Value.okWide Tryz.prog W .any b0 37 v) (h : DataW.Trod enc Tryz.prog W 0 (fun _ => true) true 37 v d ps) (hz : Small d 37) :
    ∃ A A' B B' a a' b b' ps ps' ls ls', v = caseV A A' B B' a a' b b' ps.length ps'.length ls.length ls'.length ∧ Lst PeerE W (fun _ => False) A a ps ∧ Lst PeerE W (fun _ => False) A' a' ps' ∧ Lst LaneE W (fun _ => False) B b ls ∧ Lst LaneE W (fun _ => False) B' b' ls' := by
  obtain ⟨cs, rfl, hsz⟩ := okWide_struct Tryz.underlying37 hval
  obtain ⟨c0, c1, c2, c3, rfl⟩ := arr4 (hsz.trans cellsOf_case)
  obtain ⟨fuel, hf⟩ := h
  obtain ⟨xs, n', _, hx, hl, hxs, hfl⟩ := DataW.trod_struct Tryz.underlying37 hf
  have f0 : DataW.trod enc Tryz.prog W 0 (fun _ => true) true n' 23 (([c0, c1, c2, c3].drop 0).take (Tryz.prog.cellsOf 23)) = xs[0]? := hfl 0 _ rfl
  have f1 : DataW.trod enc Tryz.prog W 0 (fun _ => true) true n' 23 (([c0, c1, c2, c3].drop 1).take (Tryz.prog.cellsOf 23)) = xs[1]? := hfl 1 _ rfl
  have f2 : DataW.trod enc Tryz.prog W 0 (fun _ => true) true n' 24 (([c0, c1, c2, c3].drop 2).take (Tryz.prog.cellsOf 24)) = xs[2]? := hfl 2 _ rfl
  have f3 : DataW.trod enc Tryz.prog W 0 (fun _ => true) true n' 24 (([c0, c1, c2, c3].drop 3).take (Tryz.prog.cellsOf 24)) = xs[3]? := hfl 3 _ rfl
  rw [cellsOf_peers] at f0 f1
  rw [cellsOf_lanes] at f2 f3
  have hxl : xs.length = 4 := hxs
  match xs, hxl with
  | [y0, y1, y2, y3], _ =>
    injection hx with hd hp
    subst hd
    have w0 : Small y0.1 23 := fun n hn => hz n (by simp only [DataW.weights, Tryz.underlying37]; simp [DataW.weightsEach]; exact .inl hn)
    have w1 : Small y1.1 23 := fun n hn => hz n (by simp only [DataW.weights, Tryz.underlying37]; simp [DataW.weightsEach]; exact .inr (.inl hn))
    have w2 : Small y2.1 24 := fun n hn => hz n (by simp only [DataW.weights, Tryz.underlying37]; simp [DataW.weightsEach]; exact .inr (.inr (.inl hn)))
    have w3 : Small y3.1 24 := fun n hn => hz n (by simp only [DataW.weights, Tryz.underlying37]; simp [DataW.weightsEach]; exact .inr (.inr (.inr hn)))
    obtain ⟨A, a, ps, e0, s0⟩ := trod_peers f0 w0
    obtain ⟨A', a', ps', e1, s1⟩ := trod_peers f1 w1
    obtain ⟨B, b, ls, e2, s2⟩ := trod_lanes f2 w2
    obtain ⟨B', b', ls', e3, s3⟩ := trod_lanes f3 w3
    simp at e0 e1 e2 e3
    subst e0 e1 e2 e3
    exact ⟨A, A', B, B', a, a', b, b', ps, ps', ls, ls', rfl, s0, s1, s2, s3⟩
end Go.Proofs.YtgbjhlkjceonpaaGreat.Lst
/- The walk of rows.Sets. -/
namespace Go.Proofs.YtgbjhlkjceonpaaGreat.Lst
open Go.RowKit Go.Proofs.YtgbjhlkjceonpaaGreat.K Go.Proofs.YtgbjhlkjceonpaaGreat.Help Go.Proofs.YtgbjhlkjceonpaaGreat.Pfx Go.Proofs.YtgbjhlkjceonpaaGreat.Peer
set_option linter.unusedVariables false

theorem GOf.has {w : World} {l : List RowD} {rs : List GRow} (h : GOf w l rs) (k : List UInt8) : hasG rs k = hasK l k := by
  rw [Bool.eq_iff_iff, hasG_true, hasK_mem, h.fst]
theorem okPL_nodup {ps : List PeerD} {ls : List LaneD} (h : okPL ps ls = true) : ((rowsPL ps ls).map Prod.fst).Nodup := by
  unfold okPL at h
  rw [Bool.and_eq_true] at h
  exact (twice_nodup _).1 (by simpa using h.2)
theorem rowsPL_key (ps : List PeerD) (ls : List LaneD) : ∀ k, k ∈ (rowsPL ps ls).map Prod.fst → k.length ≤ 33 := by
  intro k hk
  obtain ⟨r, hr, rfl⟩ := List.mem_map.1 hk
  unfold rowsPL at hr
  rcases List.mem_append.1 hr with h | h
  · obtain ⟨p, _, rfl⟩ := List.mem_map.1 h
    unfold rowP
    by_cases hp : peerOk p
    · rw [putPeer_ok hp]; simp [be]
    · rw [putPeer_bad hp]; simp
  · obtain ⟨p, _, rfl⟩ := List.mem_map.1 h
    unfold rowL
    by_cases hp : laneOk p
    · rw [putLane_yes hp]; have := hp.1; simp; omega
    · rw [putLane_no hp]; simp
/-- the sets under way -/
structure S3 (w3 wr : World) (v : Value) (s : List SetD) : Prop where
  o : OwnL SetE 96 wr (fun _ => False) w3.heap.size v s
  b : Below w3.heap.size w3 wr
section
variable {w3 wr w1 : World} {v v1 : Value} {s : List SetD}
theorem S3.start (w3 : World) : S3 w3 w3 (.slice none 0 0) [] := ⟨OwnL.nil _ _ _ _ _, Below.refl _ _⟩
theorem S3.step (h : S3 w3 wr v s) (hb : Below wr.heap.size wr w1) : S3 w3 w1 v s := ⟨h.o.below hb, below_step h.b hb⟩
theorem S3.push (h : S3 w3 wr v s) {x : SetD} (o : OwnL SetE 96 w1 (fun _ => False) w3.heap.size v1 (s ++ [x])) (k : Only wr w1 (fun k => v.ownBlock = some k)) : S3 w3 w1 v1 (s ++ [x]) :=
  ⟨o, below_only h.b k (fun i hi => h.o.base_le hi)⟩
theorem S3.el (h : S3 w3 wr v s) {W1 : World} (hb : Below wr.heap.size wr W1) {A B : Option Addr} {a b : Nat} {key val : List UInt8} {g : Bool} (h1 : Bs W1 A a key) (n1 : Nw wr A) (h2 : Bs w3 B b val) :
    SetE.R W1 (fun k => False ∨ v.ownBlock = some k) [Value.slice A key.length a, .slice B val.length b, .bool g] (key, val, g) := by
  refine ⟨A, a, B, b, rfl, Bs.fresh h1 n1 (fun i hi => hi.elim (fun h => h.elim) (fun e => h.o.lt e)), ?_⟩
  refine ⟨h2.below (below_step h.b hb), fun hl ad e hn => ?_⟩
  have h3 := Bs.blk h2 hl ad e
  have h4 := hn.elim (fun h => h.elim) (fun e => h.o.base_le e)
  omega
end
/-- the same beside a list of keys -/
structure S4 (w3 wr : World) (v : Value) (s : List SetD) (A : Option Addr) (c : Nat) (ks : List (List UInt8)) : Prop where
  s : S3 w3 wr v s
  t : Lst StrE wr (fun k => v.ownBlock = some k) A c ks
section
variable {w3 wr w1 : World} {v v1 : Value} {s : List SetD} {A : Option Addr} {c : Nat} {ks : List (List UInt8)}
theorem S4.start (h : S3 w3 wr v s) (hb : Below wr.heap.size wr w1) (hl : Lst StrE w1 (fun _ => False) A c ks) (hn : Nw wr A) : S4 w3 w1 v s A c ks :=
  ⟨h.step hb, ⟨hl.le, hl.max, fun i x hx => by
    obtain ⟨bk, off, raw, e, hlt, _, hc, hr⟩ := hl.at_ i x hx
    exact ⟨bk, off, raw, e, hlt, fun ho => by have h1 := hn _ e; have h2 := h.o.lt ho; dsimp only at h1; omega, hc, hr⟩⟩⟩
theorem S4.step (h : S4 w3 wr v s A c ks) (hb : Below wr.heap.size wr w1) : S4 w3 w1 v s A c ks := ⟨h.s.step hb, h.t.below hb⟩
theorem S4.push (h : S4 w3 wr v s A c ks) {x : SetD} (o : OwnL SetE 96 w1 (fun _ => False) w3.heap.size v1 (s ++ [x])) (k : Only wr w1 (fun k => v.ownBlock = some k)) (hn : ∀ i, v1.ownBlock = some i → v.ownBlock = some i ∨ wr.heap.size ≤ i) : S4 w3 w1 v1 (s ++ [x]) A c ks :=
  ⟨h.s.push o k, (((h.t.reno (N' := fun k => v.ownBlock = some k ∨ v1.ownBlock = some k) (fun i hi => hi.elim .inl (hn i))).only k (fun i _ hi => .inl hi)).reno (fun i hi => .inl (.inr hi)))⟩
end
section
open Go.Maps
variable {ops : Array Oper} {rest : List Oper} {o : Oper} {a : Act} {Q : Exit → Act → World → Prop} {w : World} {b : Nat} {rs : List GRow}
theorem look_vg (hw : Region.wanted o (yielded ops a.tmps) = true) (m x : Operand) (hop : o.op = Op.lookup 62 m x false) (hm : a.eval m = .map (some b)) (h : GMap w b rs) (k : List UInt8) (hx : a.eval x = .string ⟨k.toArray⟩) (hk : k.length ≤ maxLen)
    (hK : wpList Tryz.prog ops Q rest (a.put o.dst (lookG rs k)) w) : wpList Tryz.prog ops Q (o :: rest) a w := by
  refine BigFrame.wpList_want hw fun K' hK' => ?_
  obtain ⟨v, ps, hrun, hv⟩ := h.1.lookup K_str u_map (z_bytes w) (zd := .held (.slice none 0 0)) (zp := []) rfl (key := .string ⟨k.toArray⟩) (kl := .string k) (by simpa using WideMaps.keyOf_string_mk u_str (s := ⟨k.toArray⟩) (by simpa [ByteArray.size] using hk))
  rw [mapD_at rs k h.2] at hv
  unfold RV at hv
  injection hv with hv
  injection hv with hv
  injection hv with hv
  subst hv
  unfold Oper.wp
  simp [execOp, hop, hm, hx, hrun, Result.andThen]
  exact hK' _ _ hK
end
theorem nw_at (w : World) (o : Nat) : Nw w (some ⟨w.heap.size, o, none⟩) := fun ad e => by injection e with e; rw [← e]; exact Nat.le_refl _
noncomputable def progQ (ps ps' : List PeerD) (ls ls' : List LaneD) : QD := if (okPL ps ls && okPL ps' ls') = true then (sortS (rawSets (rowsPL ps ls) (rowsPL ps' ls')), 0) else ([], 114)
theorem progQ_eq (ps ps' : List PeerD) (ls ls' : List LaneD) : progQ ps ps' ls ls' = refSets ps ps' ls ls' := by
  unfold progQ refSets
  by_cases h : (okPL ps ls && okPL ps' ls') = true
  · rw [if_pos h, if_pos h]
    rw [Bool.and_eq_true] at h
    rw [progSets_eq (okPL_nodup h.1) (okPL_nodup h.2)]
  · rw [if_neg h, if_neg h]
set_option maxRecDepth 100000 in
set_option maxHeartbeats 8000000 in
theorem sets_any (A A' B B' : Option Addr) (a a' b b' : Nat) (ps ps' : List PeerD) (ls ls' : List LaneD) (w : World) (hp : Lst PeerE w (fun _ => False) A a ps) (hp' : Lst PeerE w (fun _ => False) A' a' ps') (hq : Lst LaneE w (fun _ => False) B b ls) (hq' : Lst LaneE w (fun _ => False) B' b' ls')
    (hn : ps.length ≤ 100) (hn' : ps'.length ≤ 100) (hm : ls.length ≤ 100) (hm' : ls'.length ≤ 100) :
    Calls Tryz.prog 14 #[.slice A ps.length a, .slice A' ps'.length a', .slice B ls.length b, .slice B' ls'.length b'] w (RetQ w (progQ ps ps' ls ls')) := by
  have R1 := Lib.hid (mapState_any A B a b ps ls w hp hq (by omega) (by omega))
  have R2 := Lib.hid (fun W h h' => mapState_any A' B' a' b' ps' ls' W h h' (by omega) (by omega))
  have HP2 := Lib.hid hp'
  have HQ2 := Lib.hid hq'
  have L1 := Lib.hid (rowsPL_len ps ls)
  have L2 := Lib.hid (rowsPL_len ps' ls')
  have N1 := Lib.hid (okPL_nodup (ps := ps) (ls := ls))
  have N2 := Lib.hid (okPL_nodup (ps := ps') (ls := ls'))
  have K1 := Lib.hid (rowsPL_key ps ls)
  have K2 := Lib.hid (rowsPL_key ps' ls')
  rw [show (goodPL ps ls && !twiceB (rowsPL ps ls)) = okPL ps ls from rfl] at R1
  rw [show (goodPL ps' ls' && !twiceB (rowsPL ps' ls')) = okPL ps' ls' from rfl] at R2
  generalize hr : progQ ps ps' ls ls' = res
  have HR := Lib.hid hr
  clear hr hp hp' hq hq'
  unfold progQ at HR
  generalize rowsPL ps ls = was at *
  generalize rowsPL ps' ls' = is_ at *
  generalize okPL ps ls = g1 at *
  generalize okPL ps' ls' = g2 at *
  have LW : Hid (was.length ≤ 200) := by rw [Hid, L1.out]; omega
  have LI : Hid (is_.length ≤ 200) := by rw [Hid, L2.out]; omega
  clear L1 L2
  go_enter Tryz.func14, Tryz.ntmps14
  go_wp2_with fail
  refine R1.out.mono ?_
  rintro e w1 ⟨hb1, h1⟩
  have W1 := Lib.hid hb1
  clear hb1 R1
  rcases h1 with ⟨rfl, rfl⟩ | ⟨rfl, b1, rs1, rfl, hbs1, hg1, ho1⟩
  · have HE : Hid (res = ([], 114)) := by rw [Hid, ← HR.out]; rfl
    clear HR N1 N2
    go_wp2_with fail
    refine (R2.out w1 (HP2.out.below W1.out) (HQ2.out.below W1.out)).mono ?_
    rintro e w2 ⟨hb2, h2⟩
    have W2 := Lib.hid (below_step W1.out hb2)
    clear hb2
    rcases h2 with ⟨rfl, rfl⟩ | ⟨rfl, b2, rs2, rfl, -⟩
    all_goals
      go_wp2_with fail
      exact bodyPost_ret (v := .tuple #[.slice none 0 0, .int .i64 114]) (by simp [results, Tryz.results14, go_sem]) rfl ⟨none, 0, by rw [HE.out]; rfl, by rw [HE.out]; exact Lst.nil _ _, W2.out⟩
  have G1 := Lib.hid hg1
  have O1 := Lib.hid ho1
  clear hbs1 hg1 ho1
  go_wp2_with fail
  refine (R2.out w1 (HP2.out.below W1.out) (HQ2.out.below W1.out)).mono ?_
  rintro e w2 ⟨hb2, h2⟩
  have W2 := Lib.hid (below_step W1.out hb2)
  have G12 := Lib.hid (G1.out.keep hb2)
  have O12 := Lib.hid (O1.out.below hb2)
  clear hb2 R2 G1 O1
  rcases h2 with ⟨rfl, rfl⟩ | ⟨rfl, b2, rs2, rfl, hbs2, hg2, ho2⟩
  · have HE : Hid (res = ([], 114)) := by rw [Hid, ← HR.out]; rfl
    clear HR N1 N2
    go_wp2_with fail
    exact bodyPost_ret (v := .tuple #[.slice none 0 0, .int .i64 114]) (by simp [results, Tryz.results14, go_sem]) rfl ⟨none, 0, by rw [HE.out]; rfl, by rw [HE.out]; exact Lst.nil _ _, W2.out⟩
  have HE : Hid (res = (sortS (rawSets was is_), 0)) := by rw [Hid, ← HR.out]; rfl
  have D1 := Lib.hid (N1.out (by simp))
  have D2 := Lib.hid (N2.out (by simp))
  have G22 := Lib.hid hg2
  have O22 := Lib.hid ho2
  have Q1 := Lib.hid (O12.out.has)
  have RL1 : Hid (rs1.length ≤ 200) := by rw [Hid, O12.out.1]; exact LW.out
  have RL2 : Hid (rs2.length ≤ 200) := by rw [Hid, O22.out.1]; exact LI.out
  have Q2 := Lib.hid (O22.out.has)
  clear HR N1 N2 hbs2 hg2 ho2
  have RN := Lib.hid (raw_nodup D1.out D2.out)
  unfold rawSets at HE RN
  have KY := Lib.hid (keys_any b2 rs2 w2 G22.out (by have := RL2.out; omega))
  have HKS : Hid (keysOf rs2 = keysL is_) := by rw [Hid]; unfold keysOf keysL; rw [O22.out.fst]
  rw [HKS.out] at KY
  have HKM : Hid (∀ x, x ∈ keysL is_ → x ∈ is_.map Prod.fst) := Lib.hid (fun x hx => (List.mergeSort_perm _ _).mem_iff.1 hx)
  have HKL : Hid ((keysL is_).length ≤ 200) := by have := LI.out; unfold keysL; simpa [Hid] using this
  have HFS := Lib.hid (fun j hj => take_fold (stepPA was is_) [] [] (keysL is_) j hj)
  clear HKS
  generalize keysL is_ = ks at *
  go_wp2_with fail
  refine KY.out.mono ?_
  rintro e w3 ⟨KA, kc, rfl, hkl, hb3⟩
  have HKK := Lib.hid hkl
  have W3 := Lib.hid (below_step W2.out hb3)
  have G1 := Lib.hid (G12.out.keep hb3)
  have O1 := Lib.hid (O12.out.below hb3)
  have G2 := Lib.hid (G22.out.keep hb3)
  have O2 := Lib.hid (O22.out.below hb3)
  have hkc := hkl.le
  have hkc2 := hkl.max
  have HS3 := Lib.hid (S3.start w3)
  clear hkl hb3 KY G12 O12 G22 O22
  generalize hm : ks.length = m at *
  have HM := Lib.hid hm
  clear hm
  go_wp2_with fail
  go_loopg [44, 14] m (fun gk i s14 wr => ∃ (j : Nat) (s : List SetD), j ≤ m ∧ gk = m - j ∧ i = .int .i64 (j : Int) ∧ Hid ((ks.take j).foldl (stepPA was is_) [] = s) ∧ Hid (s.length ≤ j) ∧ Hid (S3 w3 wr s14 s))
  case atStart => exact ⟨0, [], by omega, rfl, rfl, rfl, by simp [Hid], HS3.out⟩
  case round =>
    clear HS3
    obtain ⟨j, s, hj, rfl, rfl, HF, HLn, HS⟩ := hrel
    obtain ⟨S, sc, rfl⟩ := HS.out.o.slice
    by_cases hjt : j < m
    · have j1 : (j : Int) < (m : Int) := by omega
      have j0 : (0 : Int) ≤ (j : Int) := by omega
      have HST := Lib.hid (HFS.out j hjt)
      rw [HF.out] at HST
      have hkk : ks[j]? = some (ks.getD j []) := getD_get [] (by rw [HM.out]; exact hjt)
      obtain ⟨bk, off, raw, rfl, hbk, -, hc, hraw⟩ := HKK.out.at_ j _ hkk
      have hmem := HKM.out _ (List.mem_of_getElem? hkk)
      obtain ⟨kk, hx⟩ : ∃ y, ks.getD j [] = y := ⟨_, rfl⟩
      rw [hx] at hmem hraw HST
      cases hraw
      have y0 : wr.cell? ⟨bk, off + j, none⟩ = some (.string ⟨kk.toArray⟩) := by
        have := (HS.out.b.cell (p := ⟨bk, off + j * 1 + 0, none⟩) hbk).trans (hc 0 (by decide))
        simpa [encStr] using this
      obtain ⟨VB, vb, hlook, hvb⟩ := find_pair kk is_ rs2 O2.out hmem
      have hkl : kk.length ≤ 140737488355328 := by have := K2.out kk hmem; omega
      have hkm : kk.length ≤ maxLen := by simp only [maxLen]; omega
      have HKM2 := Lib.hid hkm
      have HLK := Lib.hid hlook
      have HV := Lib.hid hvb
      have Ga := Lib.hid (G1.out.keep HS.out.b)
      have Gb := Lib.hid (G2.out.keep HS.out.b)
      have HQ := Q1.out kk
      have HHM : Hid (hasK was kk = true → kk ∈ was.map Prod.fst) := Lib.hid hasK_mem.1
      rw [show stepPA was is_ s kk = if (hasK was kk && decide (valOf was kk = valOf is_ kk)) = true then s else s ++ [(kk, valOf is_ kk, false)] from rfl] at HST
      have BC := Lib.hid (bytes_of · kk hkl)
      clear hlook hvb hkm hmem hx hkk hc
      generalize hhk : hasK was kk = hk at *
      clear hhk
      cases hk
      · have HH := Lib.hid HQ
        have HST2 : Hid ((ks.take (j + 1)).foldl (stepPA was is_) [] = s ++ [(kk, valOf is_ kk, false)]) := HST
        clear HQ HST
        obtain ⟨cap, w4, hcv, hs4, hb4⟩ := BC.out wr
        generalize valOf is_ kk = vv at *
        have B4 := Lib.hid hb4
        have Gc := Lib.hid (Gb.out.keep hb4)
        have E5 := Lib.hid (HS.out.el (below_alloc hb4 (.cells #[Value.slice (some ⟨wr.heap.size, 0, none⟩) kk.length cap, .slice VB vv.length vb, .bool false] 96)) (g := false) (hs4.below (below_alloc (Below.refl _ _) _)) (nw_at wr 0) HV.out)
        have S5 := Lib.hid (HS.out.step (below_alloc hb4 (.cells #[Value.slice (some ⟨wr.heap.size, 0, none⟩) kk.length cap, .slice VB vv.length vb, .bool false] 96)))
        have X5 := Lib.hid (blk_new w4 (.cells #[Value.slice (some ⟨wr.heap.size, 0, none⟩) kk.length cap, .slice VB vv.length vb, .bool false] 96))
        clear hs4 hb4
        go_wp2_with (first
          | (at_lookup; refine look_ok rfl _ _ rfl rfl Ga.out kk rfl HKM2.out ?_; rw [HH.out])
          | (at_lookup; refine look_v rfl _ _ rfl rfl Gc.out kk rfl HKM2.out ?_; rw [HLK.out])
          | (at_builtin; refine push (E := SetE) 96 38 _ 56 rfl (.tmp 64) (.tmp 71) rfl Tryz.underlying38 info_set rfl (by decide) (by decide) (by decide) (.slice S s.length sc) s (kk, vv, false) _ w4.heap.size 1 rfl rfl S5.out.o X5.out E5.out S5.out.b.size (by have := HLn.out; have := HKL.out; omega) ?_ (fun _ h => h.elim); intro A6 c6 w6 o6 k6 n6; have S7 := Lib.hid (S5.out.push o6 k6); clear o6 k6 n6))
        go_roundg (m - (j + 1))
        case measure => omega
        case rel => exact ⟨j + 1, _, by omega, rfl, by go_num, HST2, by have := HLn.out; simp [Hid]; omega, by simpa using S7⟩
      · have HH := Lib.hid HQ
        obtain ⟨UB, ub, hlk1, hub⟩ := find_pair kk was rs1 O1.out (HHM.out rfl)
        have HLU := Lib.hid hlk1
        have BE := Lib.hid (bytesEqual UB VB ub vb (valOf was kk) (valOf is_ kk) wr (hub.below HS.out.b) (HV.out.below HS.out.b))
        clear HQ hlk1 hub
        generalize valOf is_ kk = vv at *
        generalize valOf was kk = uu at *
        by_cases hv : uu = vv
        · rw [show decide (uu = vv) = true from decide_eq_true hv] at BE HST
          have HST2 : Hid ((ks.take (j + 1)).foldl (stepPA was is_) [] = s) := HST
          clear HST hv
          go_wp2_with (first
            | (at_lookup; refine look_ok rfl _ _ rfl rfl Ga.out kk rfl HKM2.out ?_; rw [HH.out, HLU.out])
            | (at_lookup; refine look_vg rfl _ _ rfl rfl Gb.out kk rfl HKM2.out ?_; rw [HLK.out]))
          refine BE.out.mono ?_
          rintro e w5 ⟨q, rfl, rfl⟩
          have S7 := Lib.hid (HS.out.step (below_drewN (Below.refl _ _) q))
          generalize wr.drewN q = w5 at *
          go_wp2_with fail
          go_roundg (m - (j + 1))
          case measure => omega
          case rel => exact ⟨j + 1, s, by omega, rfl, by go_num, HST2, by have := HLn.out; rw [Hid]; omega, S7⟩
        · rw [show decide (uu = vv) = false from decide_eq_false hv] at BE HST
          have HST2 : Hid ((ks.take (j + 1)).foldl (stepPA was is_) [] = s ++ [(kk, vv, false)]) := HST
          clear HST hv
          go_wp2_with (first
            | (at_lookup; refine look_ok rfl _ _ rfl rfl Ga.out kk rfl HKM2.out ?_; rw [HH.out, HLU.out])
            | (at_lookup; refine look_vg rfl _ _ rfl rfl Gb.out kk rfl HKM2.out ?_; rw [HLK.out]))
          refine BE.out.mono ?_
          rintro e w5 ⟨q, rfl, rfl⟩
          have S7 := Lib.hid (HS.out.step (below_drewN (Below.refl _ _) q))
          have Gd := Lib.hid (Gb.out.keep (below_drewN (Below.refl _ _) q))
          clear HS
          generalize wr.drewN q = w5 at *
          obtain ⟨cap, w4, hcv, hs4, hb4⟩ := BC.out w5
          have B4 := Lib.hid hb4
          have Gc := Lib.hid (Gd.out.keep hb4)
          have E5 := Lib.hid (S7.out.el (below_alloc hb4 (.cells #[Value.slice (some ⟨w5.heap.size, 0, none⟩) kk.length cap, .slice VB vv.length vb, .bool false] 96)) (g := false) (hs4.below (below_alloc (Below.refl _ _) _)) (nw_at w5 0) HV.out)
          have S5 := Lib.hid (S7.out.step (below_alloc hb4 (.cells #[Value.slice (some ⟨w5.heap.size, 0, none⟩) kk.length cap, .slice VB vv.length vb, .bool false] 96)))
          have X5 := Lib.hid (blk_new w4 (.cells #[Value.slice (some ⟨w5.heap.size, 0, none⟩) kk.length cap, .slice VB vv.length vb, .bool false] 96))
          clear hs4 hb4 S7 Ga Gb
          go_wp2_with (first
            | (at_lookup; refine look_v rfl _ _ rfl rfl Gc.out kk rfl HKM2.out ?_; rw [HLK.out])
            | (at_builtin; refine push (E := SetE) 96 38 _ 56 rfl (.tmp 64) (.tmp 71) rfl Tryz.underlying38 info_set rfl (by decide) (by decide) (by decide) (.slice S s.length sc) s (kk, vv, false) _ w4.heap.size 1 rfl rfl S5.out.o X5.out E5.out S5.out.b.size (by have := HLn.out; have := HKL.out; omega) ?_ (fun _ h => h.elim); intro A6 c6 w6 o6 k6 n6; have S7 := Lib.hid (S5.out.push o6 k6); clear o6 k6 n6))
          go_roundg (m - (j + 1))
          case measure => omega
          case rel => exact ⟨j + 1, _, by omega, rfl, by go_num, HST2, by have := HLn.out; simp [Hid]; omega, by simpa using S7⟩
    · obtain rfl : j = m := by omega
      have j1 : ¬ (j : Int) < (j : Int) := by omega
      have htk : ks.take j = ks := List.take_of_length_le (by rw [HM.out]; omega)
      have HF2 := HF.out
      rw [htk] at HF2
      rw [HF2] at HE RN
      clear HF2 htk HF HFS HKM HKK
      have Ga := Lib.hid (G1.out.keep HS.out.b)
      have Oa := Lib.hid (O1.out.below HS.out.b)
      have KY := Lib.hid (keys_nw b1 rs1 wr Ga.out (by have := RL1.out; omega))
      have HKS : Hid (keysOf rs1 = keysL was) := by rw [Hid]; unfold keysOf keysL; rw [Oa.out.fst]
      rw [HKS.out] at KY
      have HKM : Hid (∀ x, x ∈ keysL was → x ∈ was.map Prod.fst) := Lib.hid (fun x hx => (List.mergeSort_perm _ _).mem_iff.1 hx)
      have HKL2 : Hid ((keysL was).length ≤ 200) := by have := LW.out; unfold keysL; simpa [Hid] using this
      have HFS := Lib.hid (fun i hi => take_fold (stepPB is_) [] s (keysL was) i hi)
      clear HKS Oa
      generalize keysL was = kt at *
      go_wp2_with fail
      refine KY.out.mono ?_
      rintro e w5 ⟨TA, tc, rfl, htl, hb5, hn5⟩
      have S5 := Lib.hid (S4.start HS.out hb5 htl hn5)
      have htc := htl.le
      have htc2 := htl.max
      clear htl hb5 hn5 KY Ga HS
      generalize hm2 : kt.length = m2 at *
      have HM2 := Lib.hid hm2
      clear hm2
      generalize hv14 : Value.slice S s.length sc = v14 at *
      clear hv14
      go_wp2_with fail
      go_loopg [77, 14] m2 (fun gk i s14 wr => ∃ (i2 : Nat) (u : List SetD), i2 ≤ m2 ∧ gk = m2 - i2 ∧ i = .int .i64 (i2 : Int) ∧ Hid ((kt.take i2).foldl (stepPB is_) s = u) ∧ Hid (u.length ≤ j + i2) ∧ Hid (S4 w3 wr s14 u TA tc kt))
      case atStart => exact ⟨0, s, by omega, rfl, rfl, rfl, HLn, S5.out⟩
      case round =>
        clear S5
        obtain ⟨i2, u, hj2, rfl, rfl, HF, HLn2, HS⟩ := hrel
        obtain ⟨S2, sc2, rfl⟩ := HS.out.s.o.slice
        by_cases hjt : i2 < m2
        · have j1 : (i2 : Int) < (m2 : Int) := by omega
          have j0 : (0 : Int) ≤ (i2 : Int) := by omega
          have HST := Lib.hid (HFS.out i2 hjt)
          rw [HF.out] at HST
          have hkk : kt[i2]? = some (kt.getD i2 []) := getD_get [] (by rw [HM2.out]; exact hjt)
          obtain ⟨bk, off, raw, rfl, hbk, -, hc, hraw⟩ := HS.out.t.at_ i2 _ hkk
          have hmem := HKM.out _ (List.mem_of_getElem? hkk)
          obtain ⟨kk, hx⟩ : ∃ y, kt.getD i2 [] = y := ⟨_, rfl⟩
          rw [hx] at hmem hraw HST
          cases hraw
          have y0 : wr.cell? ⟨bk, off + i2, none⟩ = some (.string ⟨kk.toArray⟩) := by
            have := hc 0 (by decide)
            rw [show StrE.sz = 1 from rfl, Nat.mul_one, Nat.add_zero] at this
            exact this
          have hkl : kk.length ≤ 140737488355328 := by have := K1.out kk hmem; omega
          have hkm : kk.length ≤ maxLen := by simp only [maxLen]; omega
          have HKM2 := Lib.hid hkm
          have Gb := Lib.hid (G2.out.keep HS.out.s.b)
          have HQ := Q2.out kk
          rw [show stepPB is_ u kk = if hasK is_ kk = true then u else u ++ [(kk, [], true)] from rfl] at HST
          obtain ⟨cap, w4, hcv, hs4, hb4⟩ := bytes_of wr kk hkl
          clear hkm hmem hx hkk hc
          generalize hasK is_ kk = hk at *
          cases hk
          · have HH := Lib.hid HQ
            have HST2 : Hid ((kt.take (i2 + 1)).foldl (stepPB is_) s = u ++ [(kk, [], true)]) := HST
            clear HQ HST
            have E5 := Lib.hid (HS.out.s.el (below_alloc hb4 (.cells #[Value.slice (some ⟨wr.heap.size, 0, none⟩) kk.length cap, .slice none 0 0, .bool true] 96)) (g := true) (hs4.below (below_alloc (Below.refl _ _) _)) (nw_at wr 0) (Bs.nil _ _ _ : Bs w3 none 0 []))
            have S5 := Lib.hid (HS.out.step (below_alloc hb4 (.cells #[Value.slice (some ⟨wr.heap.size, 0, none⟩) kk.length cap, .slice none 0 0, .bool true] 96)))
            have X5 := Lib.hid (blk_new w4 (.cells #[Value.slice (some ⟨wr.heap.size, 0, none⟩) kk.length cap, .slice none 0 0, .bool true] 96))
            clear hs4 hb4
            go_wp2_with (first
              | (at_lookup; refine look_ok rfl _ _ rfl rfl Gb.out kk rfl HKM2.out ?_; rw [HH.out])
              | (at_builtin; refine push (E := SetE) 96 38 _ 56 rfl (.tmp 89) (.tmp 93) rfl Tryz.underlying38 info_set rfl (by decide) (by decide) (by decide) (.slice S2 u.length sc2) u (kk, [], true) _ w4.heap.size 1 rfl rfl S5.out.s.o X5.out E5.out S5.out.s.b.size (by have := HLn2.out; have := HKL2.out; have := HKL.out; omega) ?_ (fun _ h => h.elim); intro A6 c6 w6 o6 k6 n6; have S7 := Lib.hid (S5.out.push o6 k6 n6); clear o6 k6 n6))
            go_roundg (m2 - (i2 + 1))
            case measure => omega
            case rel => exact ⟨i2 + 1, _, by omega, rfl, by go_num, HST2, by have := HLn2.out; simp [Hid]; omega, by simpa using S7⟩
          · have HH := Lib.hid HQ
            have HST2 : Hid ((kt.take (i2 + 1)).foldl (stepPB is_) s = u) := HST
            clear HQ HST hs4 hb4 hcv
            go_wp2_with (first
              | (at_lookup; refine look_ok rfl _ _ rfl rfl Gb.out kk rfl HKM2.out ?_; rw [HH.out]))
            go_roundg (m2 - (i2 + 1))
            case measure => omega
            case rel => exact ⟨i2 + 1, u, by omega, rfl, by go_num, HST2, by have := HLn2.out; rw [Hid]; omega, HS⟩
        · obtain rfl : i2 = m2 := by omega
          have j1 : ¬ (i2 : Int) < (i2 : Int) := by omega
          have htk : kt.take i2 = kt := List.take_of_length_le (by rw [HM2.out]; omega)
          have HF2 := HF.out
          rw [htk] at HF2
          rw [HF2] at HE RN
          have W5 := Lib.hid (below_step W3.out HS.out.s.b)
          have ST := Lib.hid (sortSets_any wr w3.heap.size (.slice S2 u.length sc2) u HS.out.s.o RN.out)
          clear HF2 htk HF HFS
          go_wp2_with fail
          refine ST.out.mono ?_
          rintro e w6 ⟨rfl, o6, k6⟩
          obtain ⟨A9, a9, e9, l9⟩ := o6.lst (fun _ _ h => h)
          have E9 := Lib.hid e9
          have L9 := Lib.hid l9
          have W6 := Lib.hid (below_only W5.out k6 (fun i hi => Nat.le_trans W3.out.size (HS.out.s.o.base_le hi)))
          clear e9 l9 o6 k6
          go_wp2_with fail
          exact bodyPost_ret (v := .tuple #[.slice S2 u.length sc2, .int .i64 0]) (by simp [results, Tryz.results14, go_sem]) rfl ⟨A9, a9, by rw [HE.out, E9.out], by rw [HE.out]; exact L9.out, W6.out⟩
end Go.Proofs.YtgbjhlkjceonpaaGreat.Lst
/- A case's box; fits. -/
namespace Go.Proofs.YtgbjhlkjceonpaaGreat.Lst
open Go.RowKit Go.Proofs.YtgbjhlkjceonpaaGreat.K Go.Proofs.YtgbjhlkjceonpaaGreat.Help Go.Proofs.YtgbjhlkjceonpaaGreat.Pfx Go.Proofs.YtgbjhlkjceonpaaGreat.Peer
set_option linter.unusedVariables false

/-- the box of a case -/
structure CsS (w w' : World) (s0 s1 s2 s3 : Value) : Prop where
  b : w'.heap[w.heap.size]? = some (.cells #[s0, s1, s2, s3] 37 (0, 0))
  below : Below w.heap.size w w'
section
variable {w w' w2 : World} {s0 s1 s2 s3 : Value}
theorem CsS.start (w : World) (s0 s1 s2 s3 : Value) : CsS w (w.alloc (.cells #[s0, s1, s2, s3] 37)) s0 s1 s2 s3 := ⟨blk_new _ _, below_alloc (Below.refl _ _) _⟩
theorem CsS.step (h : CsS w w' s0 s1 s2 s3) (hb : Below w'.heap.size w' w2) : CsS w w2 s0 s1 s2 s3 := ⟨(hb.block _ (blk_lt h.b)).trans h.b, below_step h.below hb⟩
theorem CsS.drewN (h : CsS w w' s0 s1 s2 s3) (n : Nat) : CsS w (w'.drewN n) s0 s1 s2 s3 := ⟨h.b, below_drewN h.below n⟩
theorem CsS.c0 (h : CsS w w' s0 s1 s2 s3) : w'.cell? ⟨w.heap.size, 0, none⟩ = some s0 := (blk_cell h.b 0).trans rfl
theorem CsS.c1 (h : CsS w w' s0 s1 s2 s3) : w'.cell? ⟨w.heap.size, 1, none⟩ = some s1 := (blk_cell h.b 1).trans rfl
theorem CsS.c2 (h : CsS w w' s0 s1 s2 s3) : w'.cell? ⟨w.heap.size, 2, none⟩ = some s2 := (blk_cell h.b 2).trans rfl
theorem CsS.c3 (h : CsS w w' s0 s1 s2 s3) : w'.cell? ⟨w.heap.size, 3, none⟩ = some s3 := (blk_cell h.b 3).trans rfl
end
def FitL (n : Nat) (ps : List PeerD) : Prop := n ≤ 60 → ∀ x, x ∈ ps → x.ps.length ≤ 60
def FitsP (ps ps' : List PeerD) (n n' m m' : Nat) : Prop := n ≤ 60 ∧ n' ≤ 60 ∧ m ≤ 60 ∧ m' ≤ 60 ∧ (∀ x, x ∈ ps → x.ps.length ≤ 60) ∧ (∀ x, x ∈ ps' → x.ps.length ≤ 60)
def RetFit (w : World) (P : Prop) (e : Ending) (w' : World) : Prop := ∃ b : Bool, e = .returned (.bool b) ∧ (b = true → P) ∧ Below w.heap.size w w'
theorem fitL_of {ps : List PeerD} {n k : Nat} (hn : ps.length = n) (h : ∀ i, i < k → (ps.getD i zeroPeer).ps.length ≤ 60) (hk : ¬ (k < n ∧ k < 60)) : FitL n ps := by
  intro h60 x hx
  obtain ⟨i, hi, rfl⟩ := List.mem_iff_getElem.1 hx
  have := h i (by omega)
  simpa [hi] using this
theorem ret_fit {w w' : World} {P : Prop} {b : Bool} (h : b = true → P) (hb : Below w.heap.size w w') : RetFit w P (.returned (.bool b)) w' := ⟨b, rfl, h, hb⟩
set_option maxRecDepth 100000 in
set_option maxHeartbeats 4000000 in
theorem fits_any (A A' B B' : Option Addr) (a a' b b' m m' : Nat) (ps ps' : List PeerD) (w : World) (hp : Lst PeerE w (fun _ => False) A a ps) (hp' : Lst PeerE w (fun _ => False) A' a' ps') :
    Calls Tryz.prog 13 #[caseV A A' B B' a a' b b' ps.length ps'.length m m'] w (RetFit w (FitsP ps ps' ps.length ps'.length m m')) := by
  have HP := Lib.hid hp
  have HP' := Lib.hid hp'
  have h1 := hp.le
  have h2 := hp.max
  have h3 := hp'.le
  have h4 := hp'.max
  clear hp hp'
  have H0 := Lib.hid (CsS.start w (.slice A ps.length a) (.slice A' ps'.length a') (.slice B m b) (.slice B' m' b'))
  have q0 := H0.out.c0
  clear q0
  unfold caseV
  generalize hn : ps.length = n at *
  have HN := Lib.hid hn
  generalize hn' : ps'.length = n' at *
  have HN' := Lib.hid hn'
  clear hn hn'
  go_enter Tryz.func13, Tryz.ntmps13
  go_wp2_with fail
  go_loopg [3] n (fun gk i wr => ∃ k : Nat, k ≤ n ∧ k ≤ 60 ∧ gk = n - k ∧ i = .int .i64 (k : Int) ∧ Hid (∀ i, i < k → (ps.getD i zeroPeer).ps.length ≤ 60) ∧ Hid (CsS w wr (.slice A n a) (.slice A' n' a') (.slice B m b) (.slice B' m' b')))
  case atStart => exact ⟨0, by omega, by omega, rfl, rfl, fun i h => by omega, H0⟩
  case round =>
    clear H0
    obtain ⟨k, hk, hk6, rfl, rfl, HA, HC⟩ := hrel
    have d0 := HC.out.c0
    by_cases hc : k < n ∧ k < 60
    · obtain ⟨hlt, hl6⟩ := hc
      have i1 : (k : Int) < (n : Int) := by omega
      have i2 : (k : Int) < 60 := by omega
      have i0 : (0 : Int) ≤ (k : Int) := by omega
      obtain ⟨bk, off, A1, a1, B1, b1, rfl, hbk, c0, c1, c2, s1, s2⟩ := HP.out.peer k _ (getD_get zeroPeer (by rw [HN.out]; exact hlt))
      obtain ⟨x, hx⟩ : ∃ y, ps.getD k zeroPeer = y := ⟨_, rfl⟩
      rw [hx] at c2
      have HX := Lib.hid hx
      have y2 : wr.cell? ⟨bk, off + k * 3 + 2, none⟩ = some (.slice B1 x.ps.length b1) := (HC.out.below.cell (p := ⟨bk, _, none⟩) hbk).trans c2
      have W1 := Lib.hid HC.out.below
      clear c0 c1 c2 s1 s2 hx hbk
      generalize hxl : x.ps.length = xl at *
      have HXL := Lib.hid hxl
      clear hxl
      by_cases h6 : xl ≤ 60
      · have t6 : ¬ (60 : Int) < (xl : Int) := by omega
        go_wp2_with fail
        go_roundg (n - (k + 1))
        case measure => omega
        case rel => exact ⟨k + 1, by omega, by omega, rfl, by go_num, fun i hi => by
          rcases Nat.lt_or_ge i k with h | h
          · exact HA.out i h
          · have : i = k := by omega
            subst this
            rw [HX.out, HXL.out]; exact h6, HC⟩
      · have t6 : (60 : Int) < (xl : Int) := by omega
        go_wp2_with fail
        go_ret
        exact ret_fit (by simp) W1.out
    · have HF := Lib.hid (fitL_of HN.out HA.out hc)
      clear HA
      have i0 : (0 : Int) ≤ (k : Int) := by omega
      rcases (show (¬ (k : Int) < (n : Int)) ∨ ((k : Int) < (n : Int) ∧ ¬ (k : Int) < 60) by omega) with i1 | ⟨i1, i2⟩
      all_goals
        clear hc
        go_wp2_with fail
        clear d0
        go_loopg [4] n' (fun gk i wr => ∃ k : Nat, k ≤ n' ∧ k ≤ 60 ∧ gk = n' - k ∧ i = .int .i64 (k : Int) ∧ Hid (∀ i, i < k → (ps'.getD i zeroPeer).ps.length ≤ 60) ∧ Hid (CsS w wr (.slice A n a) (.slice A' n' a') (.slice B m b) (.slice B' m' b')))
        case atStart => exact ⟨0, by omega, by omega, rfl, rfl, fun i h => by omega, HC⟩
        case round =>
          clear HC i0 i1
          obtain ⟨j, hj, hj6, rfl, rfl, HA, HC⟩ := hrel
          have d1 := HC.out.c1
          by_cases hc : j < n' ∧ j < 60
          · obtain ⟨hlt, hl6⟩ := hc
            have i1 : (j : Int) < (n' : Int) := by omega
            have i2 : (j : Int) < 60 := by omega
            have i0 : (0 : Int) ≤ (j : Int) := by omega
            obtain ⟨bk, off, A1, a1, B1, b1, rfl, hbk, c0, c1, c2, s1, s2⟩ := HP'.out.peer j _ (getD_get zeroPeer (by rw [HN'.out]; exact hlt))
            obtain ⟨x, hx⟩ : ∃ y, ps'.getD j zeroPeer = y := ⟨_, rfl⟩
            rw [hx] at c2
            have HX := Lib.hid hx
            have y2 : wr.cell? ⟨bk, off + j * 3 + 2, none⟩ = some (.slice B1 x.ps.length b1) := (HC.out.below.cell (p := ⟨bk, _, none⟩) hbk).trans c2
            have W1 := Lib.hid HC.out.below
            clear c0 c1 c2 s1 s2 hx hbk
            generalize hxl : x.ps.length = xl at *
            have HXL := Lib.hid hxl
            clear hxl
            by_cases h6 : xl ≤ 60
            · have t6 : ¬ (60 : Int) < (xl : Int) := by omega
              go_wp2_with fail
              go_roundg (n' - (j + 1))
              case measure => omega
              case rel => exact ⟨j + 1, by omega, by omega, rfl, by go_num, fun i hi => by
                rcases Nat.lt_or_ge i j with h | h
                · exact HA.out i h
                · have : i = j := by omega
                  subst this
                  rw [HX.out, HXL.out]; exact h6, HC⟩
            · have t6 : (60 : Int) < (xl : Int) := by omega
              go_wp2_with fail
              go_ret
              exact ret_fit (by simp) W1.out
          · have HF2 := Lib.hid (fitL_of HN'.out HA.out hc)
            have W1 := Lib.hid HC.out.below
            have d0 := HC.out.c0
            have d2 := HC.out.c2
            have d3 := HC.out.c3
            clear HA
            have i0 : (0 : Int) ≤ (j : Int) := by omega
            rcases (show (¬ (j : Int) < (n' : Int)) ∨ ((j : Int) < (n' : Int) ∧ ¬ (j : Int) < 60) by omega) with i1 | ⟨i1, i2⟩
            all_goals
              clear hc
              rcases Nat.lt_or_ge 60 n with g0 | g0
              · first
                | (exfalso; omega)
                | (have e0 : decide ((n : Int) ≤ 60) = false := by rw [decide_eq_false_iff_not]; omega
                   clear g0
                   go_wp2_with fail
                   go_ret
                   exact ret_fit (by simp) W1.out)
              · first
                | (exfalso; omega)
                | (have e0 : (n : Int) ≤ 60 := by omega
                   rcases Nat.lt_or_ge 60 n' with g1 | g1
                   · first
                     | (exfalso; omega)
                     | (have e1 : decide ((n' : Int) ≤ 60) = false := by rw [decide_eq_false_iff_not]; omega
                        clear g1
                        go_wp2_with fail
                        go_ret
                        exact ret_fit (by simp) W1.out)
                   · first
                     | (exfalso; omega)
                     | (have e1 : (n' : Int) ≤ 60 := by omega
                        rcases Nat.lt_or_ge 60 m with g2 | g2
                        · first
                          | (exfalso; omega)
                          | (have e2 : decide ((m : Int) ≤ 60) = false := by rw [decide_eq_false_iff_not]; omega
                             clear g2
                             go_wp2_with fail
                             go_ret
                             exact ret_fit (by simp) W1.out)
                        · first
                          | (exfalso; omega)
                          | (have e2 : (m : Int) ≤ 60 := by omega
                             rcases Nat.lt_or_ge 60 m' with g3 | g3
                             · first
                               | (exfalso; omega)
                               | (have e3 : decide ((m' : Int) ≤ 60) = false := by rw [decide_eq_false_iff_not]; omega
                                  clear g3
                                  go_wp2_with fail
                                  go_ret
                                  exact ret_fit (by simp) W1.out)
                             · first
                               | (exfalso; omega)
                               | (have e3 : (m' : Int) ≤ 60 := by omega
                                  have HR : Hid (FitsP ps ps' n n' m m') := Lib.hid ⟨g0, g1, g2, g3, HF.out g0, HF2.out g1⟩
                                  clear g0 g1 g2 g3
                                  go_wp2_with fail
                                  go_ret
                                  exact ret_fit (fun _ => HR.out) W1.out))))
end Go.Proofs.YtgbjhlkjceonpaaGreat.Lst
