/- Contracts of the functions that the laws of this seat reach: part 4 of 8. -/
import Derived.Test.YtnhfeoniiadjfaaC3
import Derived.IntWalk
/- The walk of FromBytes. -/
namespace Go.Proofs.Ytnhfeoniiadjfaa.Lst
open Go.RowKit Go.Proofs.Ytnhfeoniiadjfaa.K Go.Proofs.Ytnhfeoniiadjfaa.Help Go.Proofs.Ytnhfeoniiadjfaa.Pfx Go.Proofs.Ytnhfeoniiadjfaa.Peer
set_option linter.unusedVariables false
set_option maxRecDepth 100000 in
set_option maxHeartbeats 4000000 in
theorem fromBytes_any (A : Option Addr) (a : Nat) (L : List UInt8) (w : World) (ha : Bs w A a L) (hm : L.length ≤ 100000) :
    Calls Try.prog 38 #[.slice A L.length a] w (RetFB w (fromD L)) := by
  have P1 := Lib.hid (getSets_any A a L w ha (by omega))
  have HLN := Lib.hid (Nat.le_trans (getSetsD_len L) hm)
  have HER := Lib.hid (getSetsD_err L)
  have HFD : Hid (fromD L = if (getSetsD L).2 = 0 ∧ (getSetsD L).1.all stays = true then some ((getSetsD L).1.map rowOf) else none) := Lib.hid rfl
  have HAP : Hid ((getSetsD L).2 = 0 → (getSetsD L).1.all stays = true → appL [] (getSetsD L).1 = (getSetsD L).1.map rowOf) := Lib.hid (fun h1 h2 => by
    have h3 := app_rise (getSetsD_ok h1) h2 _ (Nat.le_refl _)
    rwa [List.take_of_length_le (Nat.le_refl _)] at h3)
  clear ha hm
  generalize fromD L = res at *
  generalize getSetsD L = r at *
  obtain ⟨ss, er⟩ := r
  dsimp only at HLN HER HFD HAP
  go_enter Try.func38, Try.ntmps38
  go_wp2_with fail
  (with_reducible refine P1.out.mono ?_)
  rintro e w1 ⟨B, d, rfl, ho, hb1⟩
  dsimp only at ho ⊢
  by_cases h0 : er = 0
  · subst h0
    obtain ⟨B', d', ev, hl0⟩ := ho.lst (N := fun i => i < w.heap.size) (fun i hi h => by have := ho.base_le hi; omega)
    cases ev
    have hl := hl0.free
    have S1 := hand (hstart hb1) hl
    have P2 := Lib.hid (new_any w1)
    have h1 := hl.le
    have h2 := hl.max
    clear hl hl0 ho hb1 P1 HER
    generalize hmm : ss.length = m at *
    have HM := Lib.hid hmm
    clear hmm
    go_wp2_with fail
    (with_reducible refine P2.out.mono ?_)
    rintro e w2 ⟨p, b, rfl, hp, hb, ht2, hb2⟩
    have S2 := hkeep hb2 S1
    have HS := Lib.hid (S2.out.1.avoidS ht2.map.noCell)
    have HP := Lib.hid (And.intro (Nat.le_trans S1.out.2.1.size hp) (Nat.le_trans S1.out.2.1.size hb))
    have T2 := Lib.hid (ht2.fresh HP.out.1 HP.out.2)
    clear hp hb ht2 hb2 S1 P2
    go_wp2_with fail
    go_loopg [20] m (fun gk i wr => ∃ j : Nat, j ≤ m ∧ gk = m - j ∧ i = .int .i64 (j : Int) ∧ Hid ((ss.take j).all stays = true) ∧ Hid (TTabN wr w.heap.size p b j (appL [] (ss.take j))) ∧ Hid (Only w2 wr (fun i => i = b)))
    case atStart => exact ⟨0, by omega, rfl, rfl, rfl, T2, Only.refl _ _⟩
    case round =>
      clear T2
      obtain ⟨j, hj, rfl, rfl, HST, T, HO⟩ := hrel
      by_cases hlt : j < m
      · have j1 : (j : Int) < (m : Int) := by omega
        have j0 : (0 : Int) ≤ (j : Int) := by omega
        have HTS := Lib.hid (take_fold appS zeroSet [] ss j (by rw [HM.out]; exact hlt))
        have HN1 := Lib.hid (fun h => all_stays_no (l := ss) (k := j) (by rw [HM.out]; exact hlt) h)
        have HN2 := Lib.hid (fun h => all_stays_step (l := ss) (k := j) (by rw [HM.out]; exact hlt) HST.out h)
        obtain ⟨bk, off, A1, a1, B1, b1, rfl, hbk, y0, y1, y2, s1, s2⟩ := (HS.out.only HO.out (fun i _ h => h)).set j _ (getD_get zeroSet (by rw [HM.out]; exact hlt))
        obtain ⟨⟨xk, xv, xg⟩, hx⟩ : ∃ y, ss.getD j zeroSet = y := ⟨_, rfl⟩
        rw [hx] at y0 y1 y2 s1 s2 HTS HN1 HN2
        dsimp only at y0 y1 y2 s1 s2 HN1 HN2
        have hb := below_alloc (Below.refl wr.heap.size wr) (.cells #[.slice A1 xk.length a1, .slice B1 xv.length b1, .bool xg] 37)
        have hx2 := blk_new wr (.cells #[.slice A1 xk.length a1, .slice B1 xv.length b1, .bool xg] 37)
        have T1 := Lib.hid (T.out.keep hb)
        have O1 := Lib.hid (HO.out.then_ (Only.of_below hb (fun i => i = b)) (fun i h => .inl h))
        have S1 := Lib.hid (s1.1.below hb)
        have S3 := Lib.hid (s2.1.below hb)
        have hap : (ss.take (j + 1)).foldl appS [] = appS (appL [] (ss.take j)) (xk, xv, xg) := HTS.out
        have HAP1 := Lib.hid hap
        clear hb hx hbk s1 s2 HTS hap
        have x0 := (blk_cell hx2 0).trans (b := some (Value.slice A1 xk.length a1)) rfl
        have x1 := (blk_cell hx2 1).trans (b := some (Value.slice B1 xv.length b1)) rfl
        have x2 := (blk_cell hx2 2).trans (b := some (Value.bool xg)) rfl
        have HX2 := Lib.hid hx2
        have HBB := Lib.hid T.out.map.old.lt
        clear hx2
        cases xg
        · have HAP2 : Hid (appL [] (ss.take (j + 1)) = setR (appL [] (ss.take j)) xk xv) := HAP1
          have HST2 := Lib.hid (HN2.out (by first | rfl | trivial))
          go_wp2_with fail
          generalize wr.alloc (.cells #[.slice A1 xk.length a1, .slice B1 xv.length b1, .bool false] 37) = W1 at *
          have c0 := T1.out.old.cell
          have HSZ : Hid (w.heap.size ≤ W1.drew.heap.size) := Lib.hid (Nat.le_trans S2.out.2.1.size O1.out.size)
          have TD : Hid (TTabN W1.drew w.heap.size p b j (appL [] (ss.take j))) := Lib.hid (T1.out.keep (below_drewN (Below.refl _ _) 1))
          have LY := Lib.hid (layN_any w.heap.size b j (appL [] (ss.take j)) A1 B1 a1 b1 xk xv W1.drew TD.out.map HSZ.out (S1.out.drewN 1) (S3.out.drewN 1) (by have := HLN.out; omega))
          go_region_held3 (fun w' => w'.cell? ⟨p, 0, none⟩ = some (.map (some b)) ∧ w'.cell? ⟨wr.heap.size, 0, none⟩ = some (.slice A1 xk.length a1) ∧ w'.cell? ⟨wr.heap.size, 1, none⟩ = some (.slice B1 xv.length b1)) (first | go_keep | exact ⟨f0, f1, f2⟩)
            (first | (go_at_call 54; refine LY.out.mono ?_; rintro e w3 ⟨rfl, t3, k3⟩; have T3 := Lib.hid (TD.out.turn k3 t3); have KD : Only W1 w3 (fun i => i = b) := (Only.of_below (below_drewN (Below.refl W1.heap.size W1) 1) (fun i => i = b)).then_ k3 (fun i h => .inl h); have O3 := Lib.hid (O1.out.then_ KD (fun i h => .inl h)); have hx3 := KD.blk HX2.out (by have := HBB.out; omega); have f0 := T3.out.old.cell; have f1 := (blk_cell hx3 0).trans (b := some (Value.slice A1 xk.length a1)) rfl; have f2 := (blk_cell hx3 1).trans (b := some (Value.slice B1 xv.length b1)) rfl; clear t3 k3 KD hx3))
          go_wp2_with fail
          go_roundg (m - (j + 1))
          case measure => omega
          case rel => exact ⟨j + 1, by omega, rfl, by go_num, HST2, by rw [Hid, HAP2.out]; exact T3.out, O3⟩
        · have HF : Hid (res = none) := Lib.hid (by rw [HFD.out, if_neg]; rintro ⟨_, h⟩; rw [HN1.out (by first | rfl | trivial)] at h; cases h)
          have B4 := Lib.hid (below_only S2.out.2.1 O1.out (fun i hi => by rw [hi]; exact HP.out.2))
          go_wp2_with fail
          exact bodyPost_ret (v := .tuple #[.pointer none, .int .i64 114]) (by simp [results, Try.results38, go_sem]) rfl (.inr ⟨HF.out, rfl, B4.out⟩)
      · obtain rfl : j = m := by omega
        have j1 : ¬ (j : Int) < (j : Int) := by omega
        have htk : ss.take j = ss := List.take_of_length_le (by rw [HM.out]; omega)
        rw [htk] at T HST
        have HF : Hid (res = some (appL [] ss)) := Lib.hid (by rw [HFD.out, if_pos ⟨by first | rfl | trivial, HST.out⟩, HAP.out (by first | rfl | trivial) HST.out])
        have B4 := Lib.hid (below_only S2.out.2.1 HO.out (fun i hi => by rw [hi]; exact HP.out.2))
        clear htk
        go_wp2_with fail
        exact bodyPost_ret (v := .tuple #[.pointer (some ⟨p, 0, none⟩), .int .i64 0]) (by simp [results, Try.results38, go_sem]) rfl (.inl ⟨_, p, b, j, HF.out, rfl, T.out, HLN.out, B4.out⟩)
  · have he : er = 114 := by
      rcases HER.out with h | h
      · exact absurd h h0
      · injection h
    subst he
    have HF : Hid (res = none) := Lib.hid (by rw [HFD.out, if_neg]; rintro ⟨h, _⟩; exact h0 h)
    have B4 := Lib.hid hb1
    clear ho hb1
    go_wp2_with fail
    exact bodyPost_ret (v := .tuple #[.pointer none, .int .i64 114]) (by simp [results, Try.results38, go_sem]) rfl (.inr ⟨HF.out, rfl, B4.out⟩)
end Go.Proofs.Ytnhfeoniiadjfaa.Lst
/- Small words on memory for the laws on tables. -/
namespace Go.Proofs.Ytnhfeoniiadjfaa.Lst
open Go.RowKit Go.Proofs.Ytnhfeoniiadjfaa.K Go.Proofs.Ytnhfeoniiadjfaa.Help Go.Proofs.Ytnhfeoniiadjfaa.Pfx Go.Proofs.Ytnhfeoniiadjfaa.Peer
set_option linter.unusedVariables false

theorem two_bs (w : World) (x y : UInt8) : Bs (w.alloc (.cells #[.int .u8 (x.toNat : Int), .int .u8 (y.toNat : Int)] 5)) (some ⟨w.heap.size, 0, none⟩) 2 [x, y] :=
  Blk.bs (l := [x, y]) (g := w.heap.size) (blk_new w _) (by simp)
theorem take_getS (l : List SetD) (k : Nat) (hk : k < l.length) : l.take (k + 1) = l.take k ++ [l.getD k zeroSet] := by
  rw [List.take_succ_eq_append_getElem hk]; simp [hk]
theorem run_lent {g n c : Nat} (hn : n + 2 ≤ c) (z : Int) (hz : z = (n : Int) + 2) (W : World) :
    (Instr.slice 27 (.slice (some ⟨g, 0, none⟩) (n + 2) c) none (some (.int .i64 (n : Int))) (some (.int .i64 z))).run Try.prog W = .ok (.slice (some ⟨g, 0, none⟩) n (n + 2)) W := by
  subst hz
  have hel : Try.prog.elem 27 = 5 := by kernel_rfl
  have hu : Try.prog.underlying 27 = some (.slice (Try.prog.elem 27)) := by rw [hel]; exact Try.underlying27
  have hs : Try.prog.cellsOf 5 = 1 := by kernel_rfl
  have e1 : ((n : Int) + 2).toNat = n + 2 := by omega
  rw [run_slice_any (P := Try.prog) (ht := hu)]
  have hb : (Instr.sliceBounds true (n + 2) c none (some (.int .i64 (n : Int))) (some (.int .i64 ((n : Int) + 2)))).run Try.prog W = .ok (0, n, n + 2) W := by
    have b1 : (Instr.sliceBound (.int .i64 ((n : Int) + 2)) c .slice3Acap).run Try.prog W = .ok (n + 2) W := by rw [run_sliceBound (h0 := by omega) (h1 := by omega), e1]
    have b2 : (Instr.sliceBound (.int .i64 (n : Int)) (n + 2) .slice3B).run Try.prog W = .ok n W := by rw [run_sliceBound (h0 := by omega) (h1 := by omega)]; simp
    simp [Instr.sliceBounds, b1, b2]
  rw [hb, hel]
  have hsz : (sizeOf 5).run Try.prog W = .ok 1 W := by kernel_rfl
  simp only [Result.andThen, hsz, sliced]
  simp [Addr.add]
theorem app2_len (l : List UInt8) (x y : UInt8) : (l ++ [x, y]).length = l.length + 2 := by simp
theorem tmod_idx (z : Int) (n : Nat) (h : 0 < n) (hn : n ≤ 1000000) : ∃ j : Nat, j < n ∧ (wrap64 (z.tmod n + n)).tmod n = (j : Int) := by
  have h1 : -(n : Int) < z.tmod n ∧ z.tmod n < n := by
    rcases Int.le_total 0 z with hz | hz
    · rw [Int.tmod_eq_emod_of_nonneg hz]
      have := Int.emod_nonneg z (show (n : Int) ≠ 0 by omega)
      have := Int.emod_lt_of_pos z (show (0 : Int) < n by omega)
      omega
    · have e : z = -(-z) := by omega
      rw [e, Int.neg_tmod, Int.tmod_eq_emod_of_nonneg (show 0 ≤ -z by omega)]
      have := Int.emod_nonneg (-z) (show (n : Int) ≠ 0 by omega)
      have := Int.emod_lt_of_pos (-z) (show (0 : Int) < n by omega)
      omega
  have h2 : wrap64 (z.tmod n + n) = z.tmod n + n := by unfold wrap64; omega
  rw [h2, Int.tmod_eq_emod_of_nonneg (by omega)]
  have := Int.emod_nonneg (z.tmod n + n) (show (n : Int) ≠ 0 by omega)
  have := Int.emod_lt_of_pos (z.tmod n + n) (show (0 : Int) < n by omega)
  exact ⟨((z.tmod n + n) % n).toNat, by omega, by omega⟩
theorem Only.cellne {w w' : World} {q b j : Nat} {v : Value} (k : Only w w' (fun i => i = q)) (h : w.cell? ⟨b, j, none⟩ = some v) (hne : b ≠ q) : w'.cell? ⟨b, j, none⟩ = some v :=
  (cell_blk (ad := ⟨b, j, none⟩) (k.block b (World.block_lt_of_cell? w _ h) hne)).trans h
theorem Only.below2 {w wr w2 : World} {T : Nat → Prop} (k : Only w wr T) (hb : Below wr.heap.size wr w2) : Only w w2 T :=
  ⟨hb.os.trans k.os, hb.tape.trans k.tape, hb.output.trans k.output, Nat.le_trans k.size hb.size, fun i hi hn => (hb.block i (Nat.lt_of_lt_of_le hi k.size)).trans (k.block i hi hn)⟩
theorem own_lt {w : World} {B : Nat} {v : Value} {l : List UInt8} (h : Own w B v l) {i : Nat} (hi : v.ownBlock = some i) : i < w.heap.size := rows_lt h.1 hi
section
variable {w w' : World} {B : Nat}
theorem own_far {v : Value} {x : List UInt8} {T : Nat → Prop} (h : Own w B v x) (k : Only w w' T) (hT : ∀ i, T i → i < w.heap.size → NotU8 w i) : Own w' B v x :=
  h.only k (fun i hi ht => by
    obtain ⟨cs, t, fr, h1, h2⟩ := hT i ht (own_lt h hi)
    obtain ⟨cs', h3⟩ := rows_blk h.1 hi
    rw [h3] at h1
    injection h1 with h1
    injection h1 with _ h1 _
    exact h2 h1.symm)
end
end Go.Proofs.Ytnhfeoniiadjfaa.Lst
/- The walk of the document's GetSets. -/
namespace Go.Proofs.Ytnhfeoniiadjfaa.Lst
open Go.RowKit Go.Proofs.Ytnhfeoniiadjfaa.K Go.Proofs.Ytnhfeoniiadjfaa.Help Go.Proofs.Ytnhfeoniiadjfaa.Pfx Go.Proofs.Ytnhfeoniiadjfaa.Peer
set_option linter.unusedVariables false

/-- b[lo : lo + n] -/
theorem bs_lh (A : Option Addr) (c : Nat) (l : List UInt8) (lo n : Nat) (hn : lo + n ≤ l.length) (hc : l.length ≤ c) :
    ∃ A' : Option Addr, (∀ (W : World), (Instr.slice 27 (.slice A l.length c) (some (.int .i64 (lo : Int))) (some (.int .i64 ((lo : Int) + n))) none).run Try.prog W = .ok (.slice A' n (c - lo)) W) ∧ ∀ w, Bs w A c l → Bs w A' (c - lo) (cutN l lo n) := by
  refine ⟨if c = lo then A else A.map (·.add lo), fun W => ?_, fun w h => ?_⟩
  · obtain ⟨i0, hi, hz⟩ := Option.map_eq_some_iff.1 info_u8
    simp only [Prod.mk.injEq] at hz
    have hel : Try.prog.elem 27 = 5 := by simp [Program.elem, Try.underlying27]
    have hu : Try.prog.underlying 27 = some (.slice (Try.prog.elem 27)) := by rw [hel]; exact Try.underlying27
    rw [run_slice_lh W 27 A l.length c hu .i64 .i64 (lo : Int) ((lo : Int) + n) (by omega) (by omega) (by omega), hel]
    have e1 : ((lo : Int) + n).toNat = lo + n := by omega
    simp [sizeOf, typeInfo, hi, hz.2.1, sliced, Result.andThen, e1]
  · have hl : (cutN l lo n).length = n := cutN_len hn
    refine ⟨by omega, by have := h.max; omega, fun i hi => ?_⟩
    rw [hl] at hi
    obtain ⟨ad, e, hlt, hcc⟩ := h.at_ (lo + i) (by omega)
    rw [if_neg (by omega)]
    subst e
    refine ⟨ad.add lo, rfl, by rw [addr_add_block]; exact hlt, ?_⟩
    have e2 : (ad.add lo).add i = ad.add (lo + i) := by unfold Addr.add; by_cases hi : lo = 0 <;> by_cases hj : i = 0 <;> simp [hi, hj, Nat.add_assoc]
    rw [e2, hcc]
    unfold cutN
    congr 3
    simp [hi]
structure RGt (w wr : World) (v : Value) (acc : List SetD) : Prop where
  o : OwnL SetE 37 wr (fun i => i < w.heap.size) w.heap.size v acc
  b : Below w.heap.size w wr
section
variable {w wr w' : World} {v : Value} {acc : List SetD}
theorem RGt.keep (h : RGt w wr v acc) (hb : Below wr.heap.size wr w') : RGt w w' v acc := ⟨h.o.below hb, below_step h.b hb⟩
instance stb_rgt : Stb wr w' (RGt w wr v acc) (RGt w w' v acc) := ⟨fun h hb => h.keep hb⟩
end
structure RGt' (w wr : World) (sb : Nat) (v : Value) (acc : List SetD) : Prop where
  o : OwnL SetE 37 wr (fun i => i = sb ∨ i < w.heap.size) w.heap.size v acc
  b : Below w.heap.size w wr
instance stb_rgt' {w wr w' : World} {sb : Nat} {v : Value} {acc : List SetD} : Stb wr w' (RGt' w wr sb v acc) (RGt' w w' sb v acc) := ⟨fun h hb => ⟨h.o.below hb, below_step h.b hb⟩⟩
theorem bs_plain {w : World} {A : Option Addr} {c : Nat} {l : List UInt8} (h : Bs w A c l) (hl : 0 < l.length) : ∃ b o, A = some ⟨b, o, none⟩ ∧ b < w.heap.size ∧ ∀ i, i < l.length → w.cell? ⟨b, o + i, none⟩ = some (.int .u8 ((l.getD i 0).toNat : Int)) := by
  obtain ⟨ad, e, hlt, hc⟩ := h.at_ 0 hl
  obtain ⟨b, o, s⟩ := ad
  have e0 : (⟨b, o, s⟩ : Addr).add 0 = ⟨b, o, s⟩ := by unfold Addr.add; simp
  rw [e0] at hc
  have hs : s = none := World.cell?_spot hc
  subst hs
  refine ⟨b, o, e, hlt, fun i hi => ?_⟩
  obtain ⟨ad', e', _, hc'⟩ := h.at_ i hi
  rw [e] at e'
  cases e'
  have e2 : (⟨b, o, none⟩ : Addr).add i = ⟨b, o + i, none⟩ := by unfold Addr.add; split <;> simp_all
  rwa [e2] at hc'
theorem val2_lt (a b : UInt8) : a.toNat * 256 + b.toNat < 65536 := by have := a.toNat_lt; have := b.toNat_lt; omega
set_option maxRecDepth 100000 in
set_option maxHeartbeats 4000000 in
theorem refGetSets_any (A : Option Addr) (a : Nat) (L : List UInt8) (w : World) (ha : Bs w A a L) (hm : L.length ≤ 100000000) :
    Calls Try.prog 66 #[.slice A L.length a] w (RetGS w (getSetsD L)) := by
  have HA := Lib.hid ha
  have HM := Lib.hid hm
  have hle := ha.le
  clear ha
  generalize hr : getSetsD L = res
  have HR : Hid (res = setsGo L (L.length + 1) 0 []) := Lib.hid hr.symm
  clear hr
  go_enter Try.func66, Try.ntmps66
  go_wp2_with fail
  go_loopg [5, 4] L.length (fun gk at_ v wr => ∃ (p f : Nat) (acc : List SetD), p ≤ L.length ∧ gk = L.length - p ∧ at_ = .int .i64 (p : Int) ∧ Hid (L.length - p < f ∧ res = setsGo L f p acc ∧ acc.length ≤ p) ∧ Hid (RGt w wr v acc))
  case atStart => exact ⟨0, L.length + 1, [], by omega, rfl, rfl, ⟨by omega, HR.out, by simp⟩, ⟨OwnL.nil _ _ _ _ _, Below.refl _ _⟩⟩
  case round =>
    clear HR
    obtain ⟨p, f, acc, hp, rfl, rfl, HF, HS⟩ := hrel
    obtain ⟨A0, d0, rfl⟩ := HS.out.o.slice
    by_cases hlt : p < L.length
    · have i1 : (p : Int) < (L.length : Int) := by omega
      have i0 : (0 : Int) ≤ (p : Int) := by omega
      have HN : Hid (rdS L p = none → res = ([], 114)) := Lib.hid (fun h => by
        obtain ⟨f', rfl⟩ : ∃ m, f = m + 1 := ⟨f - 1, by have := HF.out.1; omega⟩
        rw [HF.out.2.1, setsGo_none hlt h])
      have HB := Lib.hid (HA.out.below HS.out.b)
      by_cases h4 : L.length - p < 4
      · have i2 : (L.length : Int) - (p : Int) < 4 := by omega
        have HFN := Lib.hid (HN.out (by unfold rdS; rw [if_pos (.inl h4)]))
        have W1 := Lib.hid HS.out.b
        go_wp2_with fail
        exact bodyPost_ret (v := .tuple #[.slice none 0 0, .int .i64 114]) (by simp [results, Try.results66, go_sem]) rfl (retGS_no HFN.out W1.out)
      · have i2 : ¬ (L.length : Int) - (p : Int) < 4 := by omega
        obtain ⟨ab, ao, rfl, had, hcl⟩ := bs_plain HB.out (by omega)
        have c0 := hcl p (by omega)
        have c1 := hcl (p + 1) (by omega)
        have c2 := hcl (p + 2) (by omega)
        have c3 := hcl (p + 3) (by omega)
        clear hcl
        have w1 : IntKind.i64.wrap ((p : Int) + 1) = (p : Int) + 1 := IntWalk.i64_in _ (by have := HM.out; omega)
        have w2 : IntKind.i64.wrap ((p : Int) + 2) = (p : Int) + 2 := IntWalk.i64_in _ (by have := HM.out; omega)
        have w3 : IntKind.i64.wrap ((p : Int) + 3) = (p : Int) + 3 := IntWalk.i64_in _ (by have := HM.out; omega)
        have n1 : ((p : Int) + 1).toNat = p + 1 := by omega
        have n2 : ((p : Int) + 2).toNat = p + 2 := by omega
        have n3 : ((p : Int) + 3).toNat = p + 3 := by omega
        have z1 : (0 : Int) ≤ (p : Int) + 1 := by omega
        have z2 : (0 : Int) ≤ (p : Int) + 2 := by omega
        have z3 : (0 : Int) ≤ (p : Int) + 3 := by omega
        have q1 : (p : Int) + 1 < (L.length : Int) := by omega
        have q2 : (p : Int) + 2 < (L.length : Int) := by omega
        have q3 : (p : Int) + 3 < (L.length : Int) := by omega
        by_cases hk1 : 1 < (L.getD p 0).toNat
        · have i3 : (1 : Int) < ((L.getD p 0).toNat : Int) := by omega
          have HFN := Lib.hid (HN.out (by unfold rdS; rw [if_pos (.inr hk1)]))
          have W1 := Lib.hid HS.out.b
          generalize (L.getD p 0) = b0 at *
          go_wp2_with fail
          exact bodyPost_ret (v := .tuple #[.slice none 0 0, .int .i64 114]) (by simp [results, Try.results66, go_sem]) rfl (retGS_no HFN.out W1.out)
        · have i3 : ¬ (1 : Int) < ((L.getD p 0).toNat : Int) := by omega
          have HST : Hid (rdS L p = if L.length - p - 4 < (L.getD (p + 1) 0).toNat + ((L.getD (p + 2) 0).toNat * 256 + (L.getD (p + 3) 0).toNat) then none else
              if mayB (cutN L (p + 4) (L.getD (p + 1) 0).toNat, cutN L (p + 4 + (L.getD (p + 1) 0).toNat) ((L.getD (p + 2) 0).toNat * 256 + (L.getD (p + 3) 0).toNat), decide ((L.getD p 0).toNat = 0)) = true then
                some ((cutN L (p + 4) (L.getD (p + 1) 0).toNat, cutN L (p + 4 + (L.getD (p + 1) 0).toNat) ((L.getD (p + 2) 0).toNat * 256 + (L.getD (p + 3) 0).toNat), decide ((L.getD p 0).toNat = 0)), p + 4 + (L.getD (p + 1) 0).toNat + ((L.getD (p + 2) 0).toNat * 256 + (L.getD (p + 3) 0).toNat)) else none) := Lib.hid (by unfold rdS; rw [if_neg (by omega)])
          have hb1 := (L.getD (p + 1) 0).toNat_lt
          have hb2 := (L.getD (p + 2) 0).toNat_lt
          have hb3 := (L.getD (p + 3) 0).toNat_lt
          generalize (L.getD p 0) = b0 at *
          generalize (L.getD (p + 1) 0) = b1 at *
          generalize (L.getD (p + 2) 0) = b2 at *
          generalize (L.getD (p + 3) 0) = b3 at *
          have wb1 : IntKind.i64.wrap (b1.toNat : Int) = (b1.toNat : Int) := IntWalk.i64_in _ (by omega)
          have wb2 : IntKind.i64.wrap (b2.toNat : Int) = (b2.toNat : Int) := IntWalk.i64_in _ (by omega)
          have wb3 : IntKind.i64.wrap (b3.toNat : Int) = (b3.toNat : Int) := IntWalk.i64_in _ (by omega)
          have wm : IntKind.i64.wrap ((b2.toNat : Int) * 256) = (b2.toNat : Int) * 256 := IntWalk.i64_in _ (by omega)
          have wa : IntKind.i64.wrap ((b2.toNat : Int) * 256 + (b3.toNat : Int)) = (b2.toNat : Int) * 256 + (b3.toNat : Int) := IntWalk.i64_in _ (by omega)
          go_wp2_with fail
          go_quiet (fail)
          obtain ⟨vn, hvn⟩ : ∃ vn, vn = b2.toNat * 256 + b3.toNat := ⟨_, rfl⟩
          have ev : (b2.toNat : Int) * 256 + (b3.toNat : Int) = (vn : Int) := by omega
          rw [← hvn] at HST
          have hvl : vn < 65536 := by omega
          rw [ev]
          have H2 := hkeep (below_drewN (Below.refl wr.heap.size wr) nq) HS
          have c0' : (wr.drewN nq).cell? ⟨ab, ao + p, none⟩ = some (.int .u8 (b0.toNat : Int)) := c0
          generalize wr.drewN nq = W2 at *
          clear HS c0 c1 c2 c3 w1 w2 w3 n1 n2 n3 z1 z2 z3 q1 q2 q3 wb1 wb2 wb3 wm wa ev hvn hb2 hb3
          generalize b1.toNat = kn at *
          by_cases h5 : L.length - p - 4 < kn + vn
          · have i4 : (L.length : Int) - (p : Int) - 4 < (kn : Int) + (vn : Int) := by omega
            have HFN := Lib.hid (HN.out (by rw [HST.out, if_pos h5]))
            go_wp2_with fail
            exact bodyPost_ret (v := .tuple #[.slice none 0 0, .int .i64 114]) (by simp [results, Try.results66, go_sem]) rfl (retGS_no HFN.out H2.out.b)
          · have i4 : ¬ (L.length : Int) - (p : Int) - 4 < (kn : Int) + (vn : Int) := by omega
            rw [if_neg h5] at HST
            obtain ⟨Ak, r1, s1⟩ := bs_lh (some ⟨ab, ao, none⟩) a L (p + 4) kn (by omega) hle
            obtain ⟨Av, r2, s2⟩ := bs_lh (some ⟨ab, ao, none⟩) a L (p + 4 + kn) vn (by omega) hle
            obtain ⟨xk, hxk⟩ : ∃ xk, xk = cutN L (p + 4) kn := ⟨_, rfl⟩
            obtain ⟨xv, hxv⟩ : ∃ xv, xv = cutN L (p + 4 + kn) vn := ⟨_, rfl⟩
            have hkl : kn = xk.length := by rw [hxk, cutN_len (by omega)]
            have hvl2 : vn = xv.length := by rw [hxv, cutN_len (by omega)]
            rw [← hxk] at s1
            rw [← hxv] at s2
            rw [← hxk, ← hxv] at HST
            rw [show ((p + 4 : Nat) : Int) = (p : Int) + 4 by omega] at r1
            rw [show ((p + 4 + kn : Nat) : Int) = (p : Int) + 4 + (kn : Int) by omega] at r2
            have hsum : p + 4 + kn + vn ≤ L.length := by omega
            clear hxk hxv h5 i4
            subst hkl hvl2
            obtain ⟨kz, hkz⟩ : ∃ z, z = decide (b0.toNat = 0) := ⟨_, rfl⟩
            have ekz : ((b0.toNat : Int) == 0) = kz := by rw [beq_nat0, hkz]; rw [Bool.eq_iff_iff]; simp
            have ekz2 : decide ((b0.toNat : Int) = 0) = kz := by rw [hkz]; simp
            rw [← hkz] at HST
            clear hkz
            have i4 : ¬ (L.length : Int) - (p : Int) - 4 < (xk.length : Int) + (xv.length : Int) := by omega
            have hb3 := below_alloc (Below.refl W2.heap.size W2) (.cells #[.slice none 0 0, .slice none 0 0, .bool kz] 37)
            have X3 := Lib.hid (blk_new W2 (.cells #[.slice none 0 0, .slice none 0 0, .bool kz] 37))
            have H3 : Hid (OwnL SetE 37 (W2.alloc (.cells #[.slice none 0 0, .slice none 0 0, .bool kz] 37)) (fun i => i = W2.heap.size ∨ i < w.heap.size) w.heap.size (.slice A0 acc.length d0) acc ∧ Below w.heap.size w (W2.alloc (.cells #[.slice none 0 0, .slice none 0 0, .bool kz] 37)) ∧ True) :=
              hkeep hb3 (Lib.hid (And.intro (H2.out.o.reno (N' := fun i => i = W2.heap.size ∨ i < w.heap.size) (fun i hi => hi.elim (fun h => .inr (by omega)) .inl)) (And.intro H2.out.b trivial)))
            have HRO : Hid (∀ i, (Value.slice A0 acc.length d0).ownBlock = some i → ¬ i = W2.heap.size) := Lib.hid (fun i hi => by have := H2.out.o.lt hi; omega)
            have HSBB : Hid (w.heap.size ≤ W2.heap.size) := Lib.hid H2.out.b.size
            have HSZ3 : Hid (W2.heap.size ≤ (W2.alloc (.cells #[.slice none 0 0, .slice none 0 0, .bool kz] 37)).heap.size) := Lib.hid hb3.size
            clear hb3
            go_wp2_with fail
            generalize W2.alloc (.cells #[.slice none 0 0, .slice none 0 0, .bool kz] 37) = W3 at *
            generalize W2.heap.size = sb at *
            have P1 := Lib.hid (Help.bytes Ak (a - (p + 4)) xk W3 (s1 _ (HA.out.below H3.out.2.1)))
            (with_reducible refine P1.out.mono ?_)
            rintro e w4 ⟨v4, rfl, o4, hb4⟩
            have S4 := hand (hand (hkeep hb4 H3) ((hb4.block _ (blk_lt X3.out)).trans X3.out)) o4
            obtain ⟨A2, a2, rfl, -⟩ := o4.bs
            have e0 := (blk_cell S4.out.2.1 0).trans (b := some (Value.slice none 0 0)) rfl
            have z0 := blk_free S4.out.2.1 0
            have X5 := blk_set S4.out.2.1 0 (.slice A2 xk.length a2)
            have k5 : Only w4 (w4.setCell ⟨sb, 0, none⟩ (.slice A2 xk.length a2)) (fun i => i = sb) := (Only.refl w4 (fun i => i = sb)).setCell (p := ⟨sb, 0, none⟩) (.inl rfl) _
            have S5 := Lib.hid (And.intro (own_far S4.out.1 k5 (fun i hi _ => by rw [hi]; exact ⟨_, _, _, S4.out.2.1, by decide⟩)) (And.intro (show (w4.setCell ⟨sb, 0, none⟩ (.slice A2 xk.length a2)).heap[sb]? = some (.cells #[.slice A2 xk.length a2, .slice none 0 0, .bool kz] 37 (0, 0)) by simpa using X5) (And.intro (S4.out.2.2.1.only k5 HRO.out (fun i _ h => .inl h)) (And.intro (below_only S4.out.2.2.2.1 k5 (fun i hi => by rw [hi]; exact HSBB.out)) trivial))))
            have P2 := Lib.hid (Help.bytes Av (a - (p + 4 + xk.length)) xv _ (s2 _ (HA.out.below S5.out.2.2.2.1)))
            clear o4 hb4 X5 k5 S4 P1 X3 H3 s1 s2 H2
            go_wp2_with fail
            generalize w4.setCell ⟨sb, 0, none⟩ (.slice A2 xk.length a2) = W5 at *
            (with_reducible refine P2.out.mono ?_)
            rintro e w6 ⟨v6, rfl, o6, hb6⟩
            have S6 := hand (hkeep hb6 S5) o6
            have HSB3 : Hid (sb ≤ W3.heap.size ∧ sb ≤ W5.heap.size) := Lib.hid ⟨HSZ3.out, Nat.le_of_lt (blk_lt S5.out.2.1)⟩
            obtain ⟨A3, a3, rfl, -⟩ := o6.bs
            have e1 := (blk_cell S6.out.2.2.1 1).trans (b := some (Value.slice none 0 0)) rfl
            have z1 := blk_free S6.out.2.2.1 1
            have X7 := blk_set S6.out.2.2.1 1 (.slice A3 xv.length a3)
            have k7 : Only w6 (w6.setCell ⟨sb, 1, none⟩ (.slice A3 xv.length a3)) (fun i => i = sb) := (Only.refl w6 (fun i => i = sb)).setCell (p := ⟨sb, 1, none⟩) (.inl rfl) _
            have hX7 : (w6.setCell ⟨sb, 1, none⟩ (.slice A3 xv.length a3)).heap[sb]? = some (.cells #[.slice A2 xk.length a2, .slice A3 xv.length a3, .bool kz] 37 (0, 0)) := by simpa using X7
            have hO7 := S6.out.2.2.2.1.only k7 HRO.out (fun i _ h => .inl h)
            have hk7 := own_far S6.out.2.1 k7 (fun i hi _ => by rw [hi]; exact ⟨_, _, _, S6.out.2.2.1, by decide⟩)
            have hv7 := own_far S6.out.1 k7 (fun i hi _ => by rw [hi]; exact ⟨_, _, _, S6.out.2.2.1, by decide⟩)
            have bN : ∀ {u : Value} {x : List UInt8} {B : Nat} {A : Option Addr} {c : Nat}, Own (w6.setCell ⟨sb, 1, none⟩ (.slice A3 xv.length a3)) B u x → w.heap.size ≤ B → u = .slice A x.length c → BsN (w6.setCell ⟨sb, 1, none⟩ (.slice A3 xv.length a3)) (fun k => (k = sb ∨ k < w.heap.size) ∨ (Value.slice A0 acc.length d0).ownBlock = some k) A c x := fun {u x B A c} ho hBB hu => by
              subst hu
              obtain ⟨A', c', ev, hb⟩ := ho.bs
              cases ev
              refine ⟨hb, fun _ ad e hni => ?_⟩
              subst e
              obtain ⟨cs', hc'⟩ := rows_blk ho.1 (i := ad.block) rfl
              rcases hni with (hni | hni) | hni
              · rw [hni] at hc'
                exact blk_ne hc' hX7 (by decide) rfl
              · have := ho.base_le (i := ad.block) rfl; omega
              · obtain ⟨cs, hc⟩ := hO7.blk hni
                exact blk_ne hc hc' (by decide) rfl
            have S7 := Lib.hid (And.intro hX7 (And.intro (RGt'.mk hO7 (below_only S6.out.2.2.2.2.1 k7 (fun i hi => by rw [hi]; exact HSBB.out))) (And.intro (bN hk7 (Nat.le_trans HSBB.out HSB3.out.1) rfl) (And.intro (bN hv7 (Nat.le_trans HSBB.out HSB3.out.2) rfl) trivial))))
            clear o6 hb6 X7 k7 S6 P2 hX7 hO7 hk7 hv7 bN S5 HSB3
            have HY : Hid (rdS L p = some ((xk, xv, kz), p + 4 + xk.length + xv.length) → okK acc xk = false → res = ([], 114)) := Lib.hid (fun h h2 => by
              obtain ⟨f', rfl⟩ : ∃ m, f = m + 1 := ⟨f - 1, by have := HF.out.1; omega⟩
              rw [HF.out.2.1, setsGo_some hlt h, if_neg (by rw [h2]; decide)])
            have HZ : Hid (rdS L p = some ((xk, xv, kz), p + 4 + xk.length + xv.length) → okK acc xk = true → p + 4 + xk.length + xv.length ≤ L.length ∧ p + 4 ≤ p + 4 + xk.length + xv.length ∧ ∃ f', L.length - (p + 4 + xk.length + xv.length) < f' ∧ res = setsGo L f' (p + 4 + xk.length + xv.length) (acc ++ [(xk, xv, kz)])) := Lib.hid (fun h h2 => by
              obtain ⟨f', rfl⟩ : ∃ m, f = m + 1 := ⟨f - 1, by have := HF.out.1; omega⟩
              exact ⟨hsum, by omega, f', by have := HF.out.1; omega, by rw [HF.out.2.1, setsGo_some hlt h, if_pos h2]⟩)
            have HAL : Hid (acc.length ≤ 100000000) := Lib.hid (by have := HF.out.2.2; omega)
            have HAP : Hid (acc.length ≤ p) := Lib.hid HF.out.2.2
            have HOA : Hid (acc = [] ∨ okK acc xk = decide ((acc.getD (acc.length - 1) zeroSet).1 < xk)) := Lib.hid (by
              rcases Nat.eq_zero_or_pos acc.length with h | h
              · exact .inl (List.eq_nil_of_length_eq_zero h)
              · exact .inr (by unfold okK; rw [decide_eq_false (by omega)]; rfl))
            rw [show mayB (xk, xv, kz) = mayN xk.length xv.length kz from rfl] at HST
            go_wp2_with fail
            generalize w6.setCell ⟨sb, 1, none⟩ (.slice A3 xv.length a3) = W7 at *
            have x0 := Since.cell ((blk_cell S7.out.1 0).trans (b := some (Value.slice A2 xk.length a2)) rfl) (blk_lt S7.out.1)
            have x1 := Since.cell ((blk_cell S7.out.1 1).trans (b := some (Value.slice A3 xv.length a3)) rfl) (blk_lt S7.out.1)
            have x2 := Since.cell ((blk_cell S7.out.1 2).trans (b := some (Value.bool kz)) rfl) (blk_lt S7.out.1)
            have HG0 := Lib.hid (Since.drew (Below.refl W7.heap.size W7))
            have VM := Lib.hid (fun p : Cls (Since W7) => refMay_any A2 A3 xk.length a2 xv.length a3 kz p.W)
            have key : (decide ((0 : Int) < (acc.length : Int)) = false ∧ decide (0 < acc.length) = false ∧ Hid (okK acc xk = true)) ∨
                ((0 : Int) < (acc.length : Int) ∧ 0 < acc.length ∧ ∃ (bk off : Nat) (C2 : Option Addr) (c2 : Nat) (pk : List UInt8), A0 = some ⟨bk, off, none⟩ ∧ (∀ p : Cls (Since W7), p.W.cell? ⟨bk, off + (acc.length - 1) * 3, none⟩ = some (.slice C2 pk.length c2)) ∧ Hid (∀ p : Cls (Since W7), Calls Try.prog 26 #[.slice C2 pk.length c2, .slice A2 xk.length a2] p.W (Pure p.W (.bool (okK acc xk))))) := by
              rcases Nat.eq_zero_or_pos acc.length with h | h
              · refine .inl ⟨by rw [decide_eq_false_iff_not]; omega, by rw [decide_eq_false_iff_not]; omega, ?_⟩
                rw [Hid, List.eq_nil_of_length_eq_zero h]; rfl
              · refine .inr ⟨by omega, h, ?_⟩
                obtain ⟨A', c', ev, hl⟩ := S7.out.2.1.o.lst (N := fun i => i = sb ∨ i < w.heap.size) (fun i hi h => h.elim (HRO.out i hi) (fun h => by have := S7.out.2.1.o.base_le hi; omega))
                cases ev
                have hl2 := hl
                obtain ⟨bk, off, C2, c2, B2, b2, eA, hbk, p0, -, -, q1, -⟩ := hl2.set (acc.length - 1) _ (getD_get zeroSet (by omega))
                refine ⟨bk, off, C2, c2, _, eA, Since.cell p0 hbk, Lib.hid (fun p => ?_)⟩
                have hL := (less_any C2 A2 c2 a2 _ xk p.W (q1.1.below p.ok) (S7.out.2.2.1.1.below p.ok)).mono fun _ _ h => quiet_pure h
                rw [lessB_dec] at hL
                rcases HOA.out with h2 | h2
                · rw [h2] at h; simp at h
                · rw [h2]; exact hL
            have HM2 : Hid (mayN xk.length xv.length kz = false → rdS L p = none) := Lib.hid (fun h => by rw [HST.out, if_neg (by rw [h]; decide)])
            have HM3 : Hid (mayN xk.length xv.length kz = true → rdS L p = some ((xk, xv, kz), p + 4 + xk.length + xv.length)) := Lib.hid (fun h => by rw [HST.out, if_pos h])
            generalize mayN xk.length xv.length kz = mb at *
            generalize hml : acc.length = m at *
            have HML := Lib.hid hml
            clear hml HST e0 e1 z0 z1 ekz ekz2 r1 r2 c0'
            clear i2 i3 i4 hk1 h4
            cases mb
            · have HFN := Lib.hid (HN.out (HM2.out (by first | rfl | trivial)))
              clear key
              refine wp_region_quiet_cls (Since W7) (by kernel_rfl) (by kernel_rfl) HG0.out ?_
              repeat (go_big_quiet_step ((go_at_call 50; exact calls_cls Since.step (VM.out _))))
              refine wpQuiet_nil ?_
              intro _ hw'
              obtain ⟨nq3, hw''⟩ := hw'
              subst hw''
              have WQ := Lib.hid (below_step S7.out.2.1.b (show Below W7.heap.size W7 nq3.W from nq3.ok))
              go_wp2_with fail
              exact bodyPost_ret (v := .tuple #[.slice none 0 0, .int .i64 114]) (by simp [results, Try.results66, go_sem]) rfl (retGS_no HFN.out WQ.out)
            · have HRD := Lib.hid (HM3.out (by first | rfl | trivial))
              have HSUB : Hid (0 < m → IntKind.i64.wrap ((m : Int) - 1) = (m : Int) - 1) := Lib.hid (fun _ => IntWalk.i64_in _ (by have := HAL.out; have := HML.out; omega))
              clear HM2 HM3
              generalize hok : okK acc xk = ok at *
              clear hok
              rcases key with ⟨hz1, hz2, HOK⟩ | ⟨hz1, hz2, bk, off, C2, c2, pk, rfl, z0, VL⟩
              · refine wp_region_quiet_cls (Since W7) (by kernel_rfl) (by kernel_rfl) HG0.out ?_
                repeat (go_big_quiet_step ((go_at_call 50; exact calls_cls Since.step (VM.out _))))
                clear x0 x1 x2 VM
                refine wpQuiet_nil ?_
                intro _ hw'
                obtain ⟨nq3, hw''⟩ := hw'
                subst hw''
                have BU := Lib.hid (show Below W7.heap.size W7 nq3.W from nq3.ok)
                generalize nq3.W = U10 at *
                have H10 := hkeep BU.out S7
                have x0 := (blk_cell H10.out.1 0).trans (b := some (Value.slice A2 xk.length a2)) rfl
                have x1 := (blk_cell H10.out.1 1).trans (b := some (Value.slice A3 xv.length a3)) rfl
                have x2 := (blk_cell H10.out.1 2).trans (b := some (Value.bool kz)) rfl
                have hb11 := below_alloc (Below.refl U10.heap.size U10) (.cells #[.slice A2 xk.length a2, .slice A3 xv.length a3, .bool kz] 37)
                have H11 := hand (hkeep hb11 H10) (blk_new U10 (.cells #[.slice A2 xk.length a2, .slice A3 xv.length a3, .bool kz] 37))
                clear hb11 S7 BU
                obtain ⟨y1, y2, f', y3, y4⟩ := HZ.out HRD.out HOK.out
                have HZ2 := Lib.hid (And.intro y1 (And.intro y2 (And.intro y3 y4)))
                clear y1 y2 y3 y4
                go_wp2_with (at_builtin; refine push (E := SetE) (N := fun i => i = sb ∨ i < w.heap.size) 37 22 _ 56 rfl (.tmp 109) (.tmp 111) rfl Try.underlying22 info_set rfl (by decide) (by decide) (by decide) (.slice A0 m d0) acc (xk, xv, kz) [Value.slice A2 xk.length a2, .slice A3 xv.length a3, .bool kz] U10.heap.size 1 rfl rfl (by rw [← HML.out]; have := H11.out.2.2.1; rw [← HML.out] at this; exact this.o) H11.out.1 (by
                    have q1 := H11.out.2.2.2.1
                    have q2 := H11.out.2.2.2.2.1
                    exact ⟨A2, a2, A3, a3, rfl, q1, q2⟩) H11.out.2.2.1.b.size (by have := HML.out; have := HAL.out; omega) ?_ (fun i hi => hi.elim (fun h => by rw [h]; exact (blk_lt H11.out.2.1)) (fun h => Nat.lt_of_lt_of_le h H11.out.2.2.1.b.size)); intro A12 c12 U12 o12 k12 n12; have O12 := Lib.hid o12; have G12 : Hid (Below w.heap.size w U12) := Lib.hid (below_only H11.out.2.2.1.b k12 (fun i hi => H11.out.2.2.1.o.base_le hi)); clear o12 k12 n12)
                go_roundg (L.length - (p + 4 + xk.length + xv.length))
                case measure => have := HZ2.out.1; have := HZ2.out.2.1; omega
                case rel => exact ⟨p + 4 + xk.length + xv.length, f', acc ++ [(xk, xv, kz)], HZ2.out.1, rfl, by first | go_num | (push_cast; rfl), ⟨HZ2.out.2.2.1, HZ2.out.2.2.2, by have := HAP.out; have := HML.out; simp; omega⟩, ⟨O12.out.reno (fun _ h => .inl (.inr h)), G12.out⟩⟩
              · have hsub := HSUB.out hz2
                have hs0 : (0 : Int) ≤ (m : Int) - 1 := by omega
                have hs1 : (m : Int) - 1 < (m : Int) := by omega
                have hs2 : ((m : Int) - 1).toNat = m - 1 := by omega
                clear HSUB
                cases ok
                · have HFN := Lib.hid (HY.out HRD.out (by first | rfl | trivial))
                  refine wp_region_quiet_cls (Since W7) (by kernel_rfl) (by kernel_rfl) HG0.out ?_
                  repeat (go_big_quiet_step (first | (go_at_call 50; exact calls_cls Since.step (VM.out _)) | (go_at_call 26; exact calls_cls Since.step (VL.out _))))
                  refine wpQuiet_nil ?_
                  intro _ hw'
                  obtain ⟨nq3, hw''⟩ := hw'
                  subst hw''
                  have WQ := Lib.hid (below_step S7.out.2.1.b (show Below W7.heap.size W7 nq3.W from nq3.ok))
                  go_wp2_with fail
                  exact bodyPost_ret (v := .tuple #[.slice none 0 0, .int .i64 114]) (by simp [results, Try.results66, go_sem]) rfl (retGS_no HFN.out WQ.out)
                · have HOK : Hid (true = true) := Lib.hid rfl
                  refine wp_region_quiet_cls (Since W7) (by kernel_rfl) (by kernel_rfl) HG0.out ?_
                  repeat (go_big_quiet_step (first | (go_at_call 50; exact calls_cls Since.step (VM.out _)) | (go_at_call 26; exact calls_cls Since.step (VL.out _))))
                  clear x0 x1 x2 VM VL z0 hsub hs0 hs1 hs2
                  refine wpQuiet_nil ?_
                  intro _ hw'
                  obtain ⟨nq3, hw''⟩ := hw'
                  subst hw''
                  have BU := Lib.hid (show Below W7.heap.size W7 nq3.W from nq3.ok)
                  generalize nq3.W = U10 at *
                  have H10 := hkeep BU.out S7
                  have x0 := (blk_cell H10.out.1 0).trans (b := some (Value.slice A2 xk.length a2)) rfl
                  have x1 := (blk_cell H10.out.1 1).trans (b := some (Value.slice A3 xv.length a3)) rfl
                  have x2 := (blk_cell H10.out.1 2).trans (b := some (Value.bool kz)) rfl
                  have hb11 := below_alloc (Below.refl U10.heap.size U10) (.cells #[.slice A2 xk.length a2, .slice A3 xv.length a3, .bool kz] 37)
                  have H11 := hand (hkeep hb11 H10) (blk_new U10 (.cells #[.slice A2 xk.length a2, .slice A3 xv.length a3, .bool kz] 37))
                  clear hb11 S7 BU
                  obtain ⟨y1, y2, f', y3, y4⟩ := HZ.out HRD.out HOK.out
                  have HZ2 := Lib.hid (And.intro y1 (And.intro y2 (And.intro y3 y4)))
                  clear y1 y2 y3 y4
                  go_wp2_with (at_builtin; refine push (E := SetE) (N := fun i => i = sb ∨ i < w.heap.size) 37 22 _ 56 rfl (.tmp 109) (.tmp 111) rfl Try.underlying22 info_set rfl (by decide) (by decide) (by decide) (.slice (some ⟨bk, off, none⟩) m d0) acc (xk, xv, kz) [Value.slice A2 xk.length a2, .slice A3 xv.length a3, .bool kz] U10.heap.size 1 rfl rfl (by rw [← HML.out]; have := H11.out.2.2.1; rw [← HML.out] at this; exact this.o) H11.out.1 (by
                      have q1 := H11.out.2.2.2.1
                      have q2 := H11.out.2.2.2.2.1
                      exact ⟨A2, a2, A3, a3, rfl, q1, q2⟩) H11.out.2.2.1.b.size (by have := HML.out; have := HAL.out; omega) ?_ (fun i hi => hi.elim (fun h => by rw [h]; exact (blk_lt H11.out.2.1)) (fun h => Nat.lt_of_lt_of_le h H11.out.2.2.1.b.size)); intro A12 c12 U12 o12 k12 n12; have O12 := Lib.hid o12; have G12 : Hid (Below w.heap.size w U12) := Lib.hid (below_only H11.out.2.2.1.b k12 (fun i hi => H11.out.2.2.1.o.base_le hi)); clear o12 k12 n12)
                  go_roundg (L.length - (p + 4 + xk.length + xv.length))
                  case measure => have := HZ2.out.1; have := HZ2.out.2.1; omega
                  case rel => exact ⟨p + 4 + xk.length + xv.length, f', acc ++ [(xk, xv, kz)], HZ2.out.1, rfl, by first | go_num | (push_cast; rfl), ⟨HZ2.out.2.2.1, HZ2.out.2.2.2, by have := HAP.out; have := HML.out; simp; omega⟩, ⟨O12.out.reno (fun _ h => .inl (.inr h)), G12.out⟩⟩
    · have i1 : ¬ (p : Int) < (L.length : Int) := by omega
      have HF2 : Hid (res = (acc, 0)) := Lib.hid (by
        obtain ⟨f', rfl⟩ : ∃ m, f = m + 1 := ⟨f - 1, by have := HF.out.1; omega⟩
        rw [HF.out.2.1, setsGo_end hlt])
      go_wp2_with fail
      exact bodyPost_ret (v := .tuple #[.slice A0 acc.length d0, .int .i64 0]) (by simp [results, Try.results66, go_sem]) rfl ⟨A0, d0, by rw [HF2.out], by rw [HF2.out]; exact HS.out.o, HS.out.b⟩
end Go.Proofs.Ytnhfeoniiadjfaa.Lst
/- The walk of the document's FromBytes. -/
namespace Go.Proofs.Ytnhfeoniiadjfaa.Lst
open Go.RowKit Go.Proofs.Ytnhfeoniiadjfaa.K Go.Proofs.Ytnhfeoniiadjfaa.Help Go.Proofs.Ytnhfeoniiadjfaa.Pfx Go.Proofs.Ytnhfeoniiadjfaa.Peer
set_option linter.unusedVariables false

/-- the document's table: its box, its rows -/
def RTab (w : World) (H g : Nat) (q : List RowD) : Prop := H ≤ g ∧ ∃ A c, w.heap[g]? = some (.cells #[.slice A q.length c] 83 (0, 0)) ∧ Lst RowE w (fun i => i < H) A c q
theorem RTab.keep {w w' : World} {H g : Nat} {q : List RowD} (h : RTab w H g q) (hb : Below w.heap.size w w') : RTab w' H g q := by
  obtain ⟨h0, A, c, h1, h2⟩ := h
  exact ⟨h0, A, c, (hb.block g (blk_lt h1)).trans h1, h2.below hb⟩
theorem RTab.low {w w' : World} {H g : Nat} {q : List RowD} {T : Nat → Prop} (h : RTab w H g q) (k : Only w w' T) (hT : ∀ i, T i → i < H) : RTab w' H g q := by
  obtain ⟨h0, A, c, h1, h2⟩ := h
  exact ⟨h0, A, c, k.blk h1 (fun e => by have := hT _ e; omega), h2.only k (fun i _ h => hT i h)⟩
instance stb_rtab {w w' : World} {H g : Nat} {q : List RowD} : Stb w w' (RTab w H g q) (RTab w' H g q) := ⟨fun h hb => h.keep hb⟩
def RetRF (w : World) (r : Option (List RowD)) (e : Ending) (w' : World) : Prop :=
  (∃ q g, r = some q ∧ e = .returned (.tuple #[.pointer (some ⟨g, 0, none⟩), .int .i64 0]) ∧ RTab w' w.heap.size g q ∧ Below w.heap.size w w') ∨ (r = none ∧ e = .returned (.tuple #[.pointer none, .int .i64 114]) ∧ Below w.heap.size w w')
theorem take_rowOf (l : List SetD) (k : Nat) (hk : k < l.length) : (l.take (k + 1)).map rowOf = (l.take k).map rowOf ++ [rowOf (l.getD k zeroSet)] := by
  rw [List.take_succ_eq_append_getElem hk, List.map_append]; simp [hk]
set_option maxRecDepth 100000 in
set_option maxHeartbeats 4000000 in
theorem refFromBytes_any (A : Option Addr) (a : Nat) (L : List UInt8) (w : World) (ha : Bs w A a L) (hm : L.length ≤ 100000) :
    Calls Try.prog 39 #[.slice A L.length a] w (RetRF w (fromD L)) := by
  have P1 := Lib.hid (refGetSets_any A a L w ha (by omega))
  have HLN := Lib.hid (Nat.le_trans (getSetsD_len L) hm)
  have HER := Lib.hid (getSetsD_err L)
  have HFD : Hid (fromD L = if (getSetsD L).2 = 0 ∧ (getSetsD L).1.all stays = true then some ((getSetsD L).1.map rowOf) else none) := Lib.hid rfl
  clear ha hm
  generalize fromD L = res at *
  generalize getSetsD L = r at *
  obtain ⟨ss, er⟩ := r
  dsimp only at HLN HER HFD
  go_enter Try.func39, Try.ntmps39
  go_wp2_with fail
  (with_reducible refine P1.out.mono ?_)
  rintro e w1 ⟨B, d, rfl, ho, hb1⟩
  dsimp only at ho ⊢
  by_cases h0 : er = 0
  · subst h0
    obtain ⟨B', d', ev, hl⟩ := ho.lst (N := fun i => i < w.heap.size) (fun i hi h => by have := ho.base_le hi; omega)
    cases ev
    have h1 := hl.le
    have h2 := hl.max
    have hb2 := below_alloc (Below.refl w1.heap.size w1) (.cells #[.slice none 0 0] 83)
    have HS := Lib.hid ((hl.reno (N' := fun i => w1.heap.size ≤ i ∨ i < w.heap.size) (fun i h => h.elim .inr .inl)).below hb2)
    have X2 := Lib.hid (blk_new w1 (.cells #[.slice none 0 0] 83))
    have B2 := Lib.hid (below_step hb1 hb2)
    have HG := Lib.hid hb1.size
    clear hl ho hb1 hb2 P1 HER
    generalize hmm : ss.length = m at *
    have HM := Lib.hid hmm
    clear hmm
    go_wp2_with fail
    generalize w1.alloc (.cells #[.slice none 0 0] 83) = w2 at *
    generalize w1.heap.size = g at *
    go_loopg [7] m (fun gk i wr => ∃ (j : Nat) (v : Value), j ≤ m ∧ gk = m - j ∧ i = .int .i64 (j : Int) ∧ Hid ((ss.take j).all stays = true) ∧ Hid (OwnL RowE 54 wr (fun i => i = g ∨ i < w.heap.size) g v ((ss.take j).map rowOf)) ∧ Hid (wr.heap[g]? = some (.cells #[v] 83 (0, 0))) ∧ Hid (Only w2 wr (fun i => g ≤ i)))
    case atStart => exact ⟨0, _, by omega, rfl, rfl, rfl, OwnL.nil _ _ _ _ _, X2, Only.refl _ _⟩
    case round =>
      clear X2
      obtain ⟨j, v, hj, rfl, rfl, HST, HO, HX, HK⟩ := hrel
      obtain ⟨AM, cM, rfl⟩ := HO.out.slice
      have hlk : ((ss.take j).map rowOf).length = j := by rw [List.length_map, List.length_take, HM.out]; omega
      have HLK := Lib.hid hlk
      rw [hlk] at HX HO
      clear hlk
      by_cases hlt : j < m
      · have j1 : (j : Int) < (m : Int) := by omega
        have j0 : (0 : Int) ≤ (j : Int) := by omega
        have HTS := Lib.hid (take_rowOf ss j (by rw [HM.out]; exact hlt))
        have HN1 := Lib.hid (fun h => all_stays_no (l := ss) (k := j) (by rw [HM.out]; exact hlt) h)
        have HN2 := Lib.hid (fun h => all_stays_step (l := ss) (k := j) (by rw [HM.out]; exact hlt) HST.out h)
        obtain ⟨bk, off, A1, a1, B1, b1, rfl, hbk, c0, c1, c2, s1, s2⟩ := (HS.out.only HK.out (fun i _ h => .inl h)).set j _ (getD_get zeroSet (by rw [HM.out]; exact hlt))
        obtain ⟨bk2, off2, raw2, eA2, -, hnn, -, -⟩ := (HS.out.only HK.out (fun i _ h => .inl h)).at_ j _ (getD_get zeroSet (by rw [HM.out]; exact hlt))
        cases eA2
        obtain ⟨⟨xk, xv, xg⟩, hx⟩ : ∃ y, ss.getD j zeroSet = y := ⟨_, rfl⟩
        rw [hx] at c0 c1 c2 s1 s2 HTS HN1 HN2
        rw [show rowOf (xk, xv, xg) = (xk, xv) from rfl] at HTS
        dsimp only at c0 c1 c2 HN1 HN2
        have S1 := Lib.hid s1
        have S2 := Lib.hid s2
        have HNN := Lib.hid (fun h => hnn (.inl h))
        have C0 := Lib.hid c0
        have C1 := Lib.hid c1
        clear s1 s2 hx hnn c0 c1
        cases xg
        · have HST2 := Lib.hid (HN2.out (by first | rfl | trivial))
          have c0 := C0.out
          have c1 := C1.out
          have d0 := (blk_cell HX.out 0).trans (b := some (Value.slice AM j cM)) rfl
          have hb3 := below_drewN (below_alloc (Below.refl wr.heap.size wr) (.cells #[Value.slice A1 xk.length a1, .slice B1 xv.length b1] 54)) 1
          have OA := Lib.hid (HO.out.below hb3)
          have XA : Hid (((wr.alloc (.cells #[Value.slice A1 xk.length a1, .slice B1 xv.length b1] 54)).drewN 1).heap[wr.heap.size]? = some (.cells #[Value.slice A1 xk.length a1, .slice B1 xv.length b1] 54 (0, 0))) := Lib.hid (blk_new wr _)
          have BXA := Lib.hid ((hb3.block _ (blk_lt HX.out)).trans HX.out)
          have KA := Lib.hid (Only.below2 HK.out hb3)
          have EA : Hid (RowE.R ((wr.alloc (.cells #[Value.slice A1 xk.length a1, .slice B1 xv.length b1] 54)).drewN 1) (fun k => (k = g ∨ k < w.heap.size) ∨ (Value.slice AM j cM).ownBlock = some k) [Value.slice A1 xk.length a1, .slice B1 xv.length b1] (xk, xv)) := Lib.hid ⟨A1, a1, B1, b1, rfl,
            (S1.out.below hb3).reno (fun i hi => .inl (hi.elim (fun h => h.elim (fun h => .inl (by rw [h]; exact Nat.le_refl _)) .inr) (fun h => .inl (HO.out.base_le h)))), (S2.out.below hb3).reno (fun i hi => .inl (hi.elim (fun h => h.elim (fun h => .inl (by rw [h]; exact Nat.le_refl _)) .inr) (fun h => .inl (HO.out.base_le h))))⟩
          have ZA : Hid (g ≤ ((wr.alloc (.cells #[Value.slice A1 xk.length a1, .slice B1 xv.length b1] 54)).drewN 1).heap.size) := Lib.hid (Nat.le_of_lt (blk_lt BXA.out))
          have ZB : Hid (g < ((wr.alloc (.cells #[Value.slice A1 xk.length a1, .slice B1 xv.length b1] 54)).drewN 1).heap.size) := Lib.hid (blk_lt BXA.out)
          have d1 := (blk_cell BXA.out 0).trans (b := some (Value.slice AM j cM)) rfl
          have d2 : (wr.alloc (.cells #[Value.slice A1 xk.length a1, .slice B1 xv.length b1] 54)).cell? ⟨g, 0, none⟩ = some (.slice AM j cM) := d1
          have HCA : Hid (((wr.alloc (.cells #[Value.slice A1 xk.length a1, .slice B1 xv.length b1] 54)).drewN 1).cell? ⟨bk, off + j * 3, none⟩ = some (.slice A1 xk.length a1) ∧ ((wr.alloc (.cells #[Value.slice A1 xk.length a1, .slice B1 xv.length b1] 54)).drewN 1).cell? ⟨bk, off + j * 3 + 1, none⟩ = some (.slice B1 xv.length b1)) := Lib.hid ⟨(hb3.cell (p := ⟨bk, _, none⟩) hbk).trans c0, (hb3.cell (p := ⟨bk, _, none⟩) hbk).trans c1⟩
          clear hb3 hbk
          go_wp2_with fail
          go_region_law
            (first
            | ((refine step_pushE (E := RowE) (N := fun i => i = g ∨ i < w.heap.size) 54 49 _ 48 (by rfl) _ _ (by rfl) Try.underlying49 info_row rfl (by decide) (by decide) (by decide) (.slice AM j cM) ((ss.take j).map rowOf) (xk, xv) [Value.slice A1 xk.length a1, .slice B1 xv.length b1] wr.heap.size 1 (by rfl) (by rfl) OA.out XA.out EA.out ZA.out (by rw [HLK.out]; have := HLN.out; omega) ?_ (fun i hi => hi.elim (fun h => by rw [h]; exact ZB.out) (fun h => Nat.lt_of_lt_of_le h (Nat.le_trans HG.out ZA.out)))
                intro A4 c4 w4 o4 k4 n4
                rw [HLK.out] at o4 ⊢
                have hne : ¬ (Value.slice AM j cM).ownBlock = some g := fun e => by obtain ⟨cs, hc⟩ := OA.out.blk e; exact blk_ne hc BXA.out (by decide) rfl
                have hx4 := k4.blk BXA.out hne
                have hne4 : ∀ i, (Value.slice A4 (j + 1) c4).ownBlock = some i → ¬ i = g := fun i hi e => by subst e; obtain ⟨cs, hc⟩ := o4.blk hi; exact blk_ne hc hx4 (by decide) rfl
                have k5 : Only w4 (w4.setCell ⟨g, 0, none⟩ (.slice A4 (j + 1) c4)) (fun i => i = g) := (Only.refl w4 (fun i => i = g)).setCell (p := ⟨g, 0, none⟩) (.inl rfl) _
                have O5 := Lib.hid (o4.only k5 hne4 (fun i _ h => .inl h))
                have X5 : Hid ((w4.setCell ⟨g, 0, none⟩ (.slice A4 (j + 1) c4)).heap[g]? = some (.cells #[.slice A4 (j + 1) c4] 83 (0, 0))) := Lib.hid (by have := blk_set hx4 0 (.slice A4 (j + 1) c4); simpa using this)
                have K4 := KA.out.then_ k4 (fun i hi => .inl (OA.out.base_le hi))
                have K5 := Lib.hid (K4.then_ k5 (fun i hi => .inl (by rw [hi]; exact Nat.le_refl _)))
                have d4 := (blk_cell hx4 0).trans (b := some (Value.slice AM j cM)) rfl
                have z4 := blk_free hx4 0
                have hbn : ¬ (Value.slice AM j cM).ownBlock = some bk := fun e => HNN.out (OA.out.base_le e)
                have hbg : bk ≠ g := fun e => HNN.out (by rw [e]; exact Nat.le_refl _)
                have f0 := (cell_blk (ad := ⟨bk, off + j * 3, none⟩) (k4.block bk (World.block_lt_of_cell? _ _ HCA.out.1) hbn)).trans HCA.out.1
                have f1 := (cell_blk (ad := ⟨bk, off + j * 3 + 1, none⟩) (k4.block bk (World.block_lt_of_cell? _ _ HCA.out.1) hbn)).trans HCA.out.2
                have g0 := Only.cellne k5 f0 hbg
                have g1 := Only.cellne k5 f1 hbg
                clear o4 k4 n4 hne hx4 hne4 k5 K4 hbn hbg)))
          all_goals
            clear f0 f1 g0 g1 d0 d1 d2 d4 z4 c0 c1
            go_wp2_with fail
            go_roundg (m - (j + 1))
            case measure => omega
            case rel => exact ⟨j + 1, _, by omega, rfl, by go_num, HST2, by rw [Hid, HTS.out]; exact O5.out, X5, K5⟩
        · have HF : Hid (res = none) := Lib.hid (by rw [HFD.out, if_neg]; rintro ⟨_, h⟩; rw [HN1.out (by first | rfl | trivial)] at h; cases h)
          have B4 := Lib.hid (below_only B2.out HK.out (fun i hi => Nat.le_trans HG.out hi))
          go_wp2_with fail
          exact bodyPost_ret (v := .tuple #[.pointer none, .int .i64 114]) (by simp [results, Try.results39, go_sem]) rfl (.inr ⟨HF.out, rfl, B4.out⟩)
      · obtain rfl : j = m := by omega
        have j1 : ¬ (j : Int) < (j : Int) := by omega
        have htk : ss.take j = ss := List.take_of_length_le (by rw [HM.out]; omega)
        rw [htk] at HO HST
        have HF : Hid (res = some (ss.map rowOf)) := Lib.hid (by rw [HFD.out, if_pos ⟨by first | rfl | trivial, HST.out⟩])
        have B4 := Lib.hid (below_only B2.out HK.out (fun i hi => Nat.le_trans HG.out hi))
        have hln : (ss.map rowOf).length = j := by rw [List.length_map, HM.out]
        obtain ⟨A', c', ev, hl⟩ := HO.out.lst (N := fun i => i = g ∨ i < w.heap.size) (fun i hi e => e.elim (fun e => by subst e; obtain ⟨cs, hc⟩ := HO.out.blk hi; exact blk_ne hc HX.out (by decide) rfl) (fun e => by have := HO.out.base_le hi; have := HG.out; omega))
        rw [hln] at ev
        cases ev
        have RT : Hid (RTab wr w.heap.size g (ss.map rowOf)) := Lib.hid ⟨HG.out, AM, cM, by rw [hln]; exact HX.out, hl.reno (fun i h => .inl (.inr h))⟩
        clear htk hl hln
        go_wp2_with fail
        exact bodyPost_ret (v := .tuple #[.pointer (some ⟨g, 0, none⟩), .int .i64 0]) (by simp [results, Try.results39, go_sem]) rfl (.inl ⟨_, g, HF.out, rfl, RT.out, B4.out⟩)
  · have he : er = 114 := by
      rcases HER.out with h | h
      · exact absurd h h0
      · injection h
    subst he
    have HF : Hid (res = none) := Lib.hid (by rw [HFD.out, if_neg]; rintro ⟨h, _⟩; exact h0 h)
    have B4 := Lib.hid hb1
    clear ho hb1
    go_wp2_with fail
    exact bodyPost_ret (v := .tuple #[.pointer none, .int .i64 114]) (by simp [results, Try.results39, go_sem]) rfl (.inr ⟨HF.out, rfl, B4.out⟩)
end Go.Proofs.Ytnhfeoniiadjfaa.Lst
/- got of the law; TableGets. -/
namespace Go.Proofs.Ytnhfeoniiadjfaa.Lst
open Go.RowKit Go.Proofs.Ytnhfeoniiadjfaa.K Go.Proofs.Ytnhfeoniiadjfaa.Help Go.Proofs.Ytnhfeoniiadjfaa.Pfx Go.Proofs.Ytnhfeoniiadjfaa.Peer
set_option linter.unusedVariables false

theorem bs_takeN {w : World} {A : Option Addr} {c : Nat} {l : List UInt8} (h : Bs w A c l) (n : Nat) : Bs w A c (l.take n) := by
  have hl : (l.take n).length ≤ l.length := by rw [List.length_take]; omega
  refine ⟨by have := h.le; omega, by have := h.max; omega, fun i hi => ?_⟩
  obtain ⟨ad, e, hlt, hc⟩ := h.at_ i (by omega)
  refine ⟨ad, e, hlt, hc.trans ?_⟩
  rw [List.length_take] at hi
  congr 3
  simp [show i < n by omega]
theorem num13c (x : Int) : Hid (∀ w, Calls Try.prog 16 #[.int .i64 x] w fun e w' => e = .returned (.int .i64 x) ∧ w = w') := Lib.hid (fun w => num13_any x w)
set_option maxRecDepth 100000 in
set_option maxHeartbeats 4000000 in
theorem got_any (gy cy n : Nat) (M : List UInt8) (w : World) (hM : Byt w gy M) (hl : M.length = n + 2) (hc : n + 2 ≤ cy) (hc2 : cy ≤ 9223372036854775807) (hn : n ≤ 70000) :
    Calls Try.prog 37 #[.slice (some ⟨gy, 0, none⟩) (n + 2) cy, .int .i64 (n : Int)] w (Pure w (.bool true)) := by
  have hb := hM.bs (n + 2) cy (by omega) hc (by omega)
  rw [List.take_of_length_le (by omega)] at hb
  have hb2 := hM.bs n (n + 2) (by omega) (by omega) (by omega)
  have hLl : (M.take n).length = n := by rw [List.length_take]; omega
  have P1 := Lib.hid (Help.bytes (some ⟨gy, 0, none⟩) cy M w hb)
  have S0 := hstart (And.intro hb hb2)
  rw [hl] at P1
  have r1 := fun W => run_lent (g := gy) hc _ rfl W
  have r2 := fun W => run_lent (g := gy) hc ((n + 2 : Nat) : Int) (by push_cast; rfl) W
  have GS := Lib.hid (fun (A : Option Addr) (c : Nat) (W : World) (h : Bs W A c (M.take n)) => getSets_any A c _ W h (by rw [hLl]; omega))
  have RG := Lib.hid (fun (A : Option Addr) (c : Nat) (W : World) (h : Bs W A c (M.take n)) => refGetSets_any A c _ W h (by rw [hLl]; omega))
  have FB := Lib.hid (fun (A : Option Addr) (c : Nat) (W : World) (h : Bs W A c (M.take n)) => fromBytes_any A c _ W h (by rw [hLl]; omega))
  have RF := Lib.hid (fun (A : Option Addr) (c : Nat) (W : World) (h : Bs W A c (M.take n)) => refFromBytes_any A c _ W h (by rw [hLl]; omega))
  have HLQ : Hid (∀ q, fromD (M.take n) = some q → q.length ≤ 100000) := Lib.hid (fun q h => by
    have h1 := (fromD_some h).2.2.2.2
    have h2 := getSetsD_len (M.take n)
    rw [h1, List.length_map]; omega)
  rw [hLl] at GS RG FB RF
  have HL := Lib.hid hl
  have i0 : (0 : Int) ≤ (n : Int) := by omega
  clear hM hb hb2 hLl
  generalize getSetsD (M.take n) = sr at *
  generalize fromD (M.take n) = fr at *
  obtain ⟨ss, er⟩ := sr
  go_enter Try.func37, Try.ntmps37
  go_wp2_with fail
  (with_reducible refine P1.out.mono ?_)
  rintro e w1 ⟨v1, rfl, o1, hb1⟩
  obtain ⟨AW, cW, rfl, bW⟩ := o1.bs
  have S1 := hand (hand (hkeep hb1 S0) (And.intro bW (bs_takeN bW n))) hb1
  have hcw := bW.le
  rw [HL.out] at hcw ⊢
  have j1 : (n : Int) ≤ (cW : Int) := by omega
  clear o1 hb1 bW P1 S0
  go_wp2_with fail
  (with_reducible refine (GS.out (some ⟨gy, 0, none⟩) (n + 2) w1 S1.out.2.2.1.2).mono ?_)
  rintro e w2 ⟨A2, c2, rfl, o2, hb2⟩
  obtain ⟨A2', c2', ev, l2⟩ := o2.lst (N := fun i => i < w1.heap.size) (fun i hi h => by have := o2.base_le hi; omega)
  cases ev
  have S2 := hand (hkeep hb2 S1) l2.free
  clear o2 hb2 S1 GS l2
  dsimp only at S2 ⊢
  go_wp2_with fail
  (with_reducible refine (RG.out AW cW w2 S2.out.2.2.1.2).mono ?_)
  rintro e w3 ⟨A3, c3, rfl, o3, hb3⟩
  obtain ⟨A3', c3', ev, l3⟩ := o3.lst (N := fun i => i < w2.heap.size) (fun i hi h => by have := o3.base_le hi; omega)
  cases ev
  have S3 := hand (hkeep hb3 S2) l3.free
  clear o3 hb3 S2 RG l3
  dsimp only at S3 ⊢
  have P4 := Lib.hid (sameSets_self A2 A3 c2 c3 ss w3 S3.out.2.1 S3.out.1)
  go_wp2_with fail
  (with_reducible refine P4.out.mono ?_)
  rintro e w4 ⟨rfl, hb4⟩
  have S4 := hkeep hb4 S3
  clear hb4 S3 P4
  go_wp2_with fail
  (with_reducible refine (FB.out (some ⟨gy, 0, none⟩) (n + 2) w4 S4.out.2.2.2.2.1.2).mono ?_)
  intro e w5 h5
  clear FB
  have heq : (er == er) = true := by simp
  have hne : (er != er) = false := by simp
  rcases h5 with ⟨q, p, b, k, rfl, rfl, ht5, hk5, hb5⟩ | ⟨rfl, rfl, hb5⟩
  · have S5 := hand (hkeep hb5 S4) ht5.old
    have HK5 := Lib.hid hk5
    have HQ := Lib.hid (HLQ.out q rfl)
    clear ht5 hb5 S4 hk5 HLQ
    go_wp2_with fail
    (with_reducible refine (RF.out AW cW w5 S5.out.2.2.2.2.1.2).mono ?_)
    intro e w6 h6
    rcases h6 with ⟨q', g, eq, rfl, hr6, hb6⟩ | ⟨eq, -, -⟩
    rotate_left
    · cases eq
    cases eq
    have S6 := hand (hkeep hb6 S5) hr6
    clear hr6 hb6 S5 RF
    have P7 := Lib.hid (sameBytes (some ⟨gy, 0, none⟩) AW cy cW M M w6 S6.out.2.2.2.2.2.2.1.1 S6.out.2.2.2.2.2.1.1)
    rw [show decide (M = M) = true by simp, HL.out] at P7
    go_wp2_with fail
    (with_reducible refine P7.out.mono ?_)
    rintro e w7 ⟨q7, rfl, rfl⟩
    have S7 := hkeep (below_drewN (Below.refl w6.heap.size w6) q7) S6
    generalize w6.drewN q7 = w7 at *
    clear P7 S6
    go_wp2_with fail
    (with_reducible refine (num13_any _ _).mono ?_)
    rintro e wq ⟨rfl, rfl⟩
    go_wp2_with fail
    (with_reducible refine (num13_any _ _).mono ?_)
    rintro e wq ⟨rfl, rfl⟩
    obtain ⟨-, AR, cR, hx7, -⟩ := S7.out.1
    have x0 := (blk_cell hx7 0).trans (b := some (Value.slice AR q.length cR)) rfl
    have HX7 := Lib.hid hx7
    have P8 := Lib.hid (rows_tab p b k q (q.length : Int) w7 S7.out.2.1 HK5.out (by omega) (by have := HQ.out; omega))
    rw [show q.take ((q.length : Int).toNat + 1) = q from List.take_of_length_le (by omega)] at P8
    clear hx7
    go_wp2_with fail
    (with_reducible refine P8.out.mono ?_)
    rintro e w8 ⟨A8, c8, rfl, l8, hb8⟩
    have S8 := hkeep hb8 S7
    have hx8 := (hb8.block _ (blk_lt HX7.out)).trans HX7.out
    obtain ⟨-, AR', cR', hx8', lr⟩ := S8.out.1
    rw [hx8] at hx8'
    cases hx8'
    have x1 := (blk_cell hx8 0).trans (b := some (Value.slice AR q.length cR)) rfl
    have P9 := Lib.hid (sameRows_any A8 AR c8 cR q q w8 l8 lr.free)
    rw [show decide (q = q) = true by simp] at P9
    clear l8 hb8 S7 hx8 lr x0 P8 HX7
    go_wp2_with fail
    (with_reducible refine P9.out.mono ?_)
    rintro e w9 ⟨rfl, hb9⟩
    have B9 := Lib.hid (below_step S8.out.2.2.2.2.1 hb9)
    clear hb9 P9
    go_wp2_with fail
    exact bodyPost_ret (v := .bool true) (by simp [results, Try.results37, go_sem]) rfl ⟨rfl, B9.out⟩
  · have S5 := hkeep hb5 S4
    clear hb5 S4 HLQ
    go_wp2_with fail
    (with_reducible refine (RF.out AW cW w5 S5.out.2.2.2.1.2).mono ?_)
    intro e w6 h6
    rcases h6 with ⟨q', g, eq, -, -, -⟩ | ⟨-, rfl, hb6⟩
    · cases eq
    have S6 := hkeep hb6 S5
    clear hb6 S5 RF
    have P7 := Lib.hid (sameBytes (some ⟨gy, 0, none⟩) AW cy cW M M w6 S6.out.2.2.2.2.1.1 S6.out.2.2.2.1.1)
    rw [show decide (M = M) = true by simp, HL.out] at P7
    go_wp2_with fail
    (with_reducible refine P7.out.mono ?_)
    rintro e w7 ⟨q7, rfl, rfl⟩
    have S7 := hkeep (below_drewN (Below.refl w6.heap.size w6) q7) S6
    generalize w6.drewN q7 = w7 at *
    clear P7 S6
    go_wp2_with fail
    (with_reducible refine (num13_any _ _).mono ?_)
    rintro e wq ⟨rfl, rfl⟩
    go_wp2_with fail
    (with_reducible refine (num13_any _ _).mono ?_)
    rintro e wq ⟨rfl, rfl⟩
    go_wp2_with fail
    exact bodyPost_ret (v := .bool true) (by simp [results, Try.results37, go_sem]) rfl ⟨rfl, S7.out.2.2.1⟩
end Go.Proofs.Ytnhfeoniiadjfaa.Lst
/- The walk of TableGets. -/
namespace Go.Proofs.Ytnhfeoniiadjfaa.tableGets
open Go.RowKit Go.Proofs.Ytnhfeoniiadjfaa.K Go.Proofs.Ytnhfeoniiadjfaa.Help Go.Proofs.Ytnhfeoniiadjfaa.Lst Go.Proofs.Ytnhfeoniiadjfaa.Peer
set_option linter.unusedVariables false
set_option maxRecDepth 100000 in
set_option maxHeartbeats 4000000 in
theorem walk (A : Option Addr) (a : Nat) (l : List UInt8) (z : Int) (hz1 : -9223372036854775808 ≤ z) (hz2 : z ≤ 9223372036854775807) (x : UInt8) (W : World) (hs : Bs W A a l) :
    Calls Try.prog 7 #[.slice A l.length a, .int .i64 z, .int .u8 (x.toNat : Int)] W fun e W' => e = .returned (.bool true) ∧ Below W.heap.size W W' := by
  have h1 := hs.le
  have h2 := hs.max
  have P1 := Lib.hid (first13_any W)
  have S0 := hstart hs
  clear hs
  obtain ⟨n, hn⟩ : ∃ n, n = l.length := ⟨_, rfl⟩
  have HN := Lib.hid hn
  rw [← hn] at h1 h2 ⊢
  clear hn
  go_enter Try.func7, Try.ntmps7
  go_wp2_with fail
  (with_reducible refine P1.out.mono ?_)
  rintro e w1 ⟨rfl, hb1⟩
  have S1 := hand (hkeep hb1 S0) hb1
  have hb1' := Lib.hid hb1.size
  clear hb1 S0 P1
  by_cases hbig : 65536 < n
  · have hbi : (65536 : Int) < (n : Int) := by omega
    go_wp2_with fail
    exact bodyPost_ret (v := .bool true) (by simp [results, Try.results7, go_sem]) rfl ⟨rfl, S1.out.1⟩
  have hbi : ¬ (65536 : Int) < (n : Int) := by omega
  have P2 := Lib.hid (Help.bytes A a l w1 S1.out.2.1)
  rw [← HN.out] at P2
  go_wp2_with fail
  (with_reducible refine P2.out.mono ?_)
  rintro e w2 ⟨v2, rfl, o2, hb2⟩
  obtain ⟨A2, a2, rfl, -⟩ := o2.bs
  have hb3 := below_alloc (Below.refl w2.heap.size w2) (.cells #[.int .u8 161, .int .u8 162] 5)
  have O3 := Lib.hid (o2.below hb3)
  have M3 : Hid (Bs (w2.alloc (.cells #[.int .u8 161, .int .u8 162] 5)) (some ⟨w2.heap.size, 0, none⟩) 2 [161, 162]) := Lib.hid (two_bs w2 161 162)
  have B3 := Lib.hid (below_step hb2 hb3)
  have Z3 := Lib.hid B3.out.size
  clear o2 hb2 hb3 P2
  rw [← HN.out] at O3 ⊢
  have HL2 : Hid (l.length + ([161, 162] : List UInt8).length ≤ 140737488355328) := Lib.hid (by have := HN.out; simp only [List.length_cons, List.length_nil]; omega)
  go_wp2_with (at_builtin; refine push_any (B := w1.heap.size) rfl (.tmp 26) (.tmp 27) rfl (.slice A2 n a2) l [161, 162] (some ⟨w2.heap.size, 0, none⟩) 2 rfl rfl O3.out M3.out Z3.out HL2.out ?_; intro A4 c4 w4 o4 k4; obtain ⟨gy, cy, ev, g1, g2, g3, byk⟩ := own_byt o4 (by rw [app2_len]; omega); cases ev; have G3 := Lib.hid g3; rw [app2_len, ← HN.out] at g2 ⊢; have G1 := Lib.hid g1; have G2 := Lib.hid g2; have BYK := Lib.hid byk; have B4 := Lib.hid (below_only B3.out k4 (fun i hi => O3.out.base_le hi)); clear o4 k4 g1 g2 g3 byk)
  have S4 := hand (hkeep B4.out S1) BYK.out
  have hg2 := G2.out
  obtain ⟨M, hM⟩ : ∃ M, M = l ++ [161, 162] := ⟨_, rfl⟩
  have HML : Hid (M.length = n + 2) := Lib.hid (by rw [hM, app2_len, HN.out])
  have HMT : Hid (M.take n = l) := Lib.hid (by rw [hM, HN.out, List.take_left' rfl])
  rw [← hM] at S4
  have HGW : Hid (W.heap.size ≤ gy) := Lib.hid (Nat.le_trans hb1'.out G1.out)
  clear hM BYK O3 M3 B3 Z3 S1 G1 B4 hb1'
  have P5 := Lib.hid (got_any gy c4 n M w4 S4.out.1 HML.out G2.out G3.out (by omega))
  (with_reducible refine P5.out.mono ?_)
  rintro e w5 ⟨rfl, hb5⟩
  have S5 := hkeep hb5 S4
  clear hb5 S4 P5
  rcases Nat.eq_zero_or_pos n with h0 | h0
  · subst h0
    go_wp2_with fail
    exact bodyPost_ret (v := .bool true) (by simp [results, Try.results7, go_sem]) rfl ⟨rfl, S5.out.2.1⟩
  have hn0 : ((n : Int) == 0) = false := by rw [beq_nat0]; simp; omega
  have hgb := S5.out.1.bs n (n + 2) (by rw [HML.out]; omega) (by omega) (by omega)
  rw [HMT.out] at hgb
  have r1 := fun W => run_lent (g := gy) G2.out _ rfl W
  have r2 := fun W => run_lent (g := gy) G2.out ((n + 2 : Nat) : Int) (by push_cast; rfl) W
  have P6 := Lib.hid (fromBytes_any (some ⟨gy, 0, none⟩) (n + 2) l w5 hgb (by have := HN.out; omega))
  have P7 := Lib.hid (fun w h => refFromBytes_any A a l w h (by have := HN.out; omega))
  rw [← HN.out] at P6 P7
  have HGB := Lib.hid S5.out.1.lt
  have HLQ : Hid (∀ q, fromD l = some q → q.length ≤ 100000) := Lib.hid (fun q h => by
    have h1 := (fromD_some h).2.2.2.2
    have h2 := getSetsD_len l
    have h3 := HN.out
    rw [h1, List.length_map]; omega)
  clear hgb
  generalize fromD l = fr at *
  go_wp2_with fail
  (with_reducible refine P6.out.mono ?_)
  intro e w6 h6
  obtain ⟨j, hj, hjj⟩ := tmod_idx z n h0 (by omega)
  have j0 : (0 : Int) ≤ (j : Int) := by omega
  have j1 : (j : Int) < (n : Int) + 2 := by omega
  have j2 : (j : Int) < ((n + 2 : Nat) : Int) := by omega
  rcases h6 with ⟨q, p, b, k, rfl, rfl, ht6, hk6, hb6⟩ | ⟨rfl, rfl, hb6⟩
  · have S6 := hkeep hb6 S5
    have HQ := Lib.hid (HLQ.out q rfl)
    have HKK := Lib.hid hk6
    have T6 := Lib.hid (And.intro ht6 trivial)
    have HG6 : Hid (gy < w6.heap.size) := Lib.hid (Nat.lt_of_lt_of_le HGB.out hb6.size)
    clear hb6 P6 HLQ S5 ht6 hk6
    go_wp2_with fail
    (with_reducible refine (P7.out w6 S6.out.2.2.1).mono ?_)
    intro e w7 h7
    rcases h7 with ⟨q', g, eq, rfl, hr7, hb7⟩ | ⟨eq, -, -⟩
    rotate_left
    · cases eq
    cases eq
    have S7 := hkeep hb7 S6
    have T7 := hand (hkeep hb7 T6) hr7
    clear hb7 P7 S6 T6 hr7
    have y1 := S7.out.1.cell j (by rw [HML.out]; omega)
    have z1 := S7.out.1.free j
    generalize hx0 : M.getD j 0 = x0 at *
    obtain ⟨y, hy⟩ : ∃ y : UInt8, bits .xor .u8 (x0.toNat : Int) (x.toNat : Int) = (y.toNat : Int) := ⟨UInt8.ofNat (x0.toNat ^^^ x.toNat), by
      have h1 := x0.toNat_lt
      have h2 := x.toNat_lt
      rw [ofNat_small (Nat.xor_lt_two_pow (n := 8) h1 h2)]
      exact u8_xor_nat x0.toNat x.toNat h1 h2⟩
    have k8 : Only w7 (w7.setCell ⟨gy, j, none⟩ (.int .u8 (y.toNat : Int))) (fun i => i = gy) := (Only.refl w7 (fun i => i = gy)).setCell (p := ⟨gy, j, none⟩) (.inl rfl) _
    have S8 := Lib.hid (And.intro (S7.out.1.set j y) (And.intro (below_only S7.out.2.1 k8 (fun i hi => by rw [hi]; exact HGW.out)) trivial))
    have T8 := Lib.hid (And.intro (T7.out.1.low k8 (fun i hi => by rw [hi]; exact HG6.out)) (And.intro (T7.out.2.1.low k8 (fun i hi => by rw [hi]; exact HGB.out)) trivial))
    have HML2 : Hid ((M.set j y).length = n + 2) := Lib.hid (by rw [List.length_set]; exact HML.out)
    have P9 := Lib.hid (got_any gy c4 n (M.set j y) _ S8.out.1 HML2.out G2.out G3.out (by omega))
    clear k8 S7 T7
    go_wp2_with fail
    (with_reducible refine P9.out.mono ?_)
    clear y1 z1 hy
    generalize w7.setCell ⟨gy, j, none⟩ (.int .u8 (y.toNat : Int)) = w8 at *
    rintro e w9 ⟨rfl, hb9⟩
    have S9 := hkeep hb9 S8
    have T9 := hkeep hb9 T8
    clear hb9 S8 P9 T8
    generalize M.set j y = M2 at *
    go_wp2_with fail
    go_loopg [14] n (fun gk i wr => ∃ (k : Nat) (M3 : List UInt8), k ≤ n ∧ gk = n - k ∧ i = .int .i64 (k : Int) ∧ Hid (Byt wr gy M3 ∧ M3.length = n + 2) ∧ Hid (Only w9 wr (fun i => i = gy)))
    case atStart => exact ⟨0, M2, by omega, rfl, rfl, ⟨S9.out.1, HML2.out⟩, Only.refl _ _⟩
    case round =>
      obtain ⟨i, M3, hi, rfl, rfl, HB, HO⟩ := hrel
      by_cases hlt : i < n
      · have i1 : (i : Int) < (n : Int) := by omega
        have i2 : (i : Int) < (n : Int) + 2 := by omega
        have i3 : (i : Int) < ((n + 2 : Nat) : Int) := by omega
        have i0 : (0 : Int) ≤ (i : Int) := by omega
        have c0 := HB.out.1.cell i (by rw [HB.out.2]; omega)
        have z0 := HB.out.1.free i
        have NB := Lib.hid (And.intro (HB.out.1.set i 35) (show (M3.set i 35).length = n + 2 by rw [List.length_set]; exact HB.out.2))
        have NO := Lib.hid (HO.out.then_ ((Only.refl wr (fun k => k = gy)).setCell (p := ⟨gy, i, none⟩) (.inl rfl) (.int .u8 35)) (fun k hk => .inl hk))
        generalize M3.getD i 0 = m0 at *
        go_wp2_with fail
        go_roundg (n - (i + 1))
        case measure => omega
        case rel => exact ⟨i + 1, M3.set i 35, by omega, rfl, by go_num, NB, NO⟩
      · obtain rfl : i = n := by omega
        have i1 : ¬ (i : Int) < (i : Int) := by omega
        have B10 := Lib.hid (below_only S9.out.2.1 HO.out (fun i hi => by rw [hi]; exact HGW.out))
        have T10 := hand (Lib.hid (And.intro (T9.out.1.low HO.out (fun i hi => by rw [hi]; exact HG6.out)) (And.intro (T9.out.2.1.low HO.out (fun i hi => by rw [hi]; exact HGB.out)) trivial))) B10.out
        obtain ⟨-, AR, cR, hx7, -⟩ := T10.out.2.1
        have x0 := (blk_cell hx7 0).trans (b := some (Value.slice AR q.length cR)) rfl
        have HX7 := Lib.hid hx7
        have P8 := Lib.hid (rows_tab p b k q (q.length : Int) wr T10.out.2.2.1.old HKK.out (by omega) (by have := HQ.out; omega))
        rw [show q.take ((q.length : Int).toNat + 1) = q from List.take_of_length_le (by omega)] at P8
        clear hx7
        go_wp2_with fail
        (with_reducible refine P8.out.mono ?_)
        rintro e w11 ⟨A8, c8, rfl, l8, hb8⟩
        have T11 := hkeep hb8 T10
        have hx8 := (hb8.block _ (blk_lt HX7.out)).trans HX7.out
        obtain ⟨-, AR', cR', hx8', lr⟩ := T11.out.2.1
        rw [hx8] at hx8'
        cases hx8'
        have x1 := (blk_cell hx8 0).trans (b := some (Value.slice AR q.length cR)) rfl
        have P9 := Lib.hid (sameRows_any A8 AR c8 cR q q w11 l8 lr.free)
        rw [show decide (q = q) = true by simp] at P9
        clear l8 hb8 T10 hx8 lr x0 P8 HX7
        go_wp2_with fail
        (with_reducible refine P9.out.mono ?_)
        rintro e w12 ⟨rfl, hb12⟩
        have B12 := Lib.hid (below_step T11.out.1 hb12)
        clear hb12 P9
        go_wp2_with fail
        exact bodyPost_ret (v := .bool true) (by simp [results, Try.results7, go_sem]) rfl ⟨rfl, B12.out⟩
  · have S6 := hkeep hb6 S5
    have HG6 : Hid (gy < w6.heap.size) := Lib.hid (Nat.lt_of_lt_of_le HGB.out hb6.size)
    clear hb6 P6 HLQ S5
    go_wp2_with fail
    (with_reducible refine (P7.out w6 S6.out.2.2.1).mono ?_)
    intro e w7 h7
    rcases h7 with ⟨q', g, eq, -, -, -⟩ | ⟨-, rfl, hb7⟩
    · cases eq
    have S7 := hkeep hb7 S6
    clear hb7 P7 S6
    have y1 := S7.out.1.cell j (by rw [HML.out]; omega)
    have z1 := S7.out.1.free j
    generalize hx0 : M.getD j 0 = x0 at *
    obtain ⟨y, hy⟩ : ∃ y : UInt8, bits .xor .u8 (x0.toNat : Int) (x.toNat : Int) = (y.toNat : Int) := ⟨UInt8.ofNat (x0.toNat ^^^ x.toNat), by
      have h1 := x0.toNat_lt
      have h2 := x.toNat_lt
      rw [ofNat_small (Nat.xor_lt_two_pow (n := 8) h1 h2)]
      exact u8_xor_nat x0.toNat x.toNat h1 h2⟩
    have k8 : Only w7 (w7.setCell ⟨gy, j, none⟩ (.int .u8 (y.toNat : Int))) (fun i => i = gy) := (Only.refl w7 (fun i => i = gy)).setCell (p := ⟨gy, j, none⟩) (.inl rfl) _
    have S8 := Lib.hid (And.intro (S7.out.1.set j y) (And.intro (below_only S7.out.2.1 k8 (fun i hi => by rw [hi]; exact HGW.out)) trivial))
    have HML2 : Hid ((M.set j y).length = n + 2) := Lib.hid (by rw [List.length_set]; exact HML.out)
    have P9 := Lib.hid (got_any gy c4 n (M.set j y) _ S8.out.1 HML2.out G2.out G3.out (by omega))
    clear k8 S7
    go_wp2_with fail
    (with_reducible refine P9.out.mono ?_)
    clear y1 z1 hy
    generalize w7.setCell ⟨gy, j, none⟩ (.int .u8 (y.toNat : Int)) = w8 at *
    rintro e w9 ⟨rfl, hb9⟩
    have S9 := hkeep hb9 S8
    clear hb9 S8 P9
    generalize M.set j y = M2 at *
    go_wp2_with fail
    go_loopg [14] n (fun gk i wr => ∃ (k : Nat) (M3 : List UInt8), k ≤ n ∧ gk = n - k ∧ i = .int .i64 (k : Int) ∧ Hid (Byt wr gy M3 ∧ M3.length = n + 2) ∧ Hid (Only w9 wr (fun i => i = gy)))
    case atStart => exact ⟨0, M2, by omega, rfl, rfl, ⟨S9.out.1, HML2.out⟩, Only.refl _ _⟩
    case round =>
      obtain ⟨i, M3, hi, rfl, rfl, HB, HO⟩ := hrel
      by_cases hlt : i < n
      · have i1 : (i : Int) < (n : Int) := by omega
        have i2 : (i : Int) < (n : Int) + 2 := by omega
        have i3 : (i : Int) < ((n + 2 : Nat) : Int) := by omega
        have i0 : (0 : Int) ≤ (i : Int) := by omega
        have c0 := HB.out.1.cell i (by rw [HB.out.2]; omega)
        have z0 := HB.out.1.free i
        have NB := Lib.hid (And.intro (HB.out.1.set i 35) (show (M3.set i 35).length = n + 2 by rw [List.length_set]; exact HB.out.2))
        have NO := Lib.hid (HO.out.then_ ((Only.refl wr (fun k => k = gy)).setCell (p := ⟨gy, i, none⟩) (.inl rfl) (.int .u8 35)) (fun k hk => .inl hk))
        generalize M3.getD i 0 = m0 at *
        go_wp2_with fail
        go_roundg (n - (i + 1))
        case measure => omega
        case rel => exact ⟨i + 1, M3.set i 35, by omega, rfl, by go_num, NB, NO⟩
      · obtain rfl : i = n := by omega
        have i1 : ¬ (i : Int) < (i : Int) := by omega
        have B10 := Lib.hid (below_only S9.out.2.1 HO.out (fun i hi => by rw [hi]; exact HGW.out))
        go_wp2_with fail
        exact bodyPost_ret (v := .bool true) (by simp [results, Try.results7, go_sem]) rfl ⟨rfl, B10.out⟩
end Go.Proofs.Ytnhfeoniiadjfaa.tableGets
/- Bytes and a byte as they come in. -/
namespace Go.Proofs.Ytnhfeoniiadjfaa.Lst
open Go.ChangeShapes Go.WideShapes Go.ChangeAt Go.RowKit Go.Proofs.Ytnhfeoniiadjfaa.K Go.Proofs.Ytnhfeoniiadjfaa.Help Go.Proofs.Ytnhfeoniiadjfaa.Pfx Go.Proofs.Ytnhfeoniiadjfaa.Peer
set_option linter.unusedVariables false
set_option maxRecDepth 100000 in
theorem arg_bytes {H : Type} {enc : TypeId × Value → H} {W : World} {b0 : Nat} {v : Value} {d : DataW H} {ps : List MemPlace}
    (hval : Value.okWide Try.prog W .any b0 27 v) (h : DataW.Trod enc Try.prog W 0 (fun _ => true) true 27 v d ps) (hz : Small d 27) :
    ∃ A c l, v = .slice A l.length c ∧ Bs W A c l := by
  obtain ⟨a0, len, cap, rfl⟩ := okWide_slice Try.underlying27 hval
  obtain ⟨fuel, hf⟩ := h
  obtain ⟨A, c, l, e, hl⟩ := trod_bytes hf hz
  simp [Value.cells] at e
  obtain ⟨rfl, rfl, rfl⟩ := e
  exact ⟨_, _, l, rfl, hl⟩
set_option maxRecDepth 100000 in
theorem u8_of {a : Int} (h : (Lit.int .u8 a).wf = true) : ∃ y : UInt8, a = (y.toNat : Int) := by
  have h2 : 0 ≤ a ∧ a ≤ 255 := by simpa [Lit.wf, IntKind.min, IntKind.max, IntKind.signed, IntKind.bits] using h
  refine ⟨UInt8.ofNat a.toNat, ?_⟩
  rw [UInt8.toNat_ofNat']
  omega
end Go.Proofs.Ytnhfeoniiadjfaa.Lst
