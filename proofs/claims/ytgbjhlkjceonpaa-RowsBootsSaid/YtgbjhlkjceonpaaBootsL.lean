/- The walk of RowsBoots. -/
import Derived.Test.YtgbjhlkjceonpaaArg
namespace Go.Proofs.Ytgbjhlkjceonpaa.rowsBoots
open Go.RowKit Go.Proofs.Ytgbjhlkjceonpaa.K Go.Proofs.Ytgbjhlkjceonpaa.Help
set_option linter.unusedVariables false

set_option maxRecDepth 100000 in
set_option maxHeartbeats 1000000 in
theorem walk (n : Int) (h1 : -9223372036854775808 ≤ n) (h2 : n ≤ 9223372036854775807) (A B : Option Addr) (a b : Nat) (k x : List UInt8) (W : World) (hk : Bs W A a k) (hx : Bs W B b x) :
    Calls Try.prog 4 #[.int .i64 n, .agg #[.slice A k.length a, .slice B x.length b]] W fun e W' => e = .returned (.bool true) ∧ Below W.heap.size W W' := by
  have P1 := Lib.hid (fun w => putBoots_any n w h2)
  have P2 := Lib.hid (fun w => refPutBoots_any n w h2)
  have RW := Lib.hid (fun w h h' => row_any A B a b k x w h h')
  have G1 := Lib.hid (fun A B c d w h h' => getBoots_any A B c d k x w h h')
  have G2 := Lib.hid (fun w h h' => refGetBoots_any A B a b k x w h h')
  rw [takes_rd] at G1
  obtain ⟨u, v, huv⟩ := readAs_cases (putBoots (Help.asInt (rdAt x 0 8))) k x (Help.asInt (rdAt x 0 8)) 0
  rw [huv] at G1 G2
  clear huv
  generalize hp : putBoots n = p at *
  obtain ⟨k', v', code⟩ := p
  dsimp only at P1 P2
  have H0 := Lib.hid (Box.start 29 W #[.slice A k.length a, .slice B x.length b])
  have HK := Lib.hid hk
  have HX := Lib.hid hx
  clear hp hk hx
  go_enter Try.func4, Try.ntmps4
  go_wp2_with fail
  refine (P1.out _).mono ?_
  rintro e w1 ⟨v1, v2, rfl, o1, o2, hb1⟩
  obtain ⟨A1, c1, rfl, s1⟩ := o1.bs
  obtain ⟨A2, c2, rfl, s2⟩ := o2.bs
  have hq := below_alloc (Below.refl w1.heap.size w1) (.cells #[.slice A1 k'.length c1, .slice A2 v'.length c2] 29)
  have H1 := Lib.hid ((H0.out.step hb1).step hq)
  have L1 := Lib.hid (blk_new w1 (.cells #[.slice A1 k'.length c1, .slice A2 v'.length c2] 29))
  have S1 := Lib.hid (s1.below hq)
  have S2 := Lib.hid (s2.below hq)
  clear o1 o2 hb1 s1 s2 hq
  go_wp2_with fail
  refine (P2.out _).mono ?_
  rintro e w2 ⟨v1, v2, rfl, o1, o2, hb1⟩
  obtain ⟨A3, c3, rfl, s1⟩ := o1.bs
  obtain ⟨A4, c4, rfl, s2⟩ := o2.bs
  have hq := below_alloc (Below.refl w2.heap.size w2) (.cells #[.slice A3 k'.length c3, .slice A4 v'.length c4] 29)
  have H2 := Lib.hid ((H1.out.step hb1).step hq)
  have l1 := blk_step (blk_step L1.out hb1) hq
  have y0 := (blk_cell l1 0).trans (b := some (Value.slice A1 k'.length c1)) rfl
  have y1 := (blk_cell l1 1).trans (b := some (Value.slice A2 v'.length c2)) rfl
  have SR := sameRow A1 A2 A3 A4 c1 c2 c3 c4 k' v' k' v' _ ((S1.out.below hb1).below hq) ((S2.out.below hb1).below hq) (s1.below hq) (s2.below hq)
  rw [show (decide (k' = k') && decide (v' = v')) = true by simp] at SR
  have SS := Lib.hid SR
  clear o1 o2 hb1 s1 s2 hq l1 SR L1 S1 S2
  go_wp2_with fail
  refine SS.out.mono ?_
  rintro e w3 ⟨rfl, hb1⟩
  have h3 := H2.out.step hb1
  have y0 : w3.cell? ⟨W.heap.size, 0, none⟩ = some (.slice A k.length a) := h3.cell 0
  have y1 : w3.cell? ⟨W.heap.size, 1, none⟩ = some (.slice B x.length b) := h3.cell 1
  have H3 := Lib.hid h3
  clear hb1 h3 SS
  go_wp2_with fail
  refine (RW.out _ (H3.out.bs HK.out) (H3.out.bs HX.out)).mono ?_
  rintro e w4 ⟨A5, c5, A6, c6, rfl, s1, s2, hb1⟩
  have H4 := Lib.hid (H3.out.step hb1)
  have S5 := Lib.hid s1
  have S6 := Lib.hid s2
  clear s1 s2 hb1
  go_wp2_with fail
  refine (G1.out A5 A6 c5 c6 _ S5.out S6.out).mono ?_
  rintro e w5 ⟨rfl, hb1⟩
  have h5 := H4.out.step hb1
  have y0 : w5.cell? ⟨W.heap.size, 0, none⟩ = some (.slice A k.length a) := h5.cell 0
  have y1 : w5.cell? ⟨W.heap.size, 1, none⟩ = some (.slice B x.length b) := h5.cell 1
  have H5 := Lib.hid h5
  clear hb1 h5
  go_wp2_with fail
  refine (G2.out _ (H5.out.bs HK.out) (H5.out.bs HX.out)).mono ?_
  rintro e w6 ⟨rfl, hb1⟩
  have H6 := Lib.hid (H5.out.step hb1)
  clear hb1
  go_wp2_with (go_at_call 16; refine (num_any _ _).mono ?_; rintro e w' ⟨rfl, rfl⟩)
  refine (first_any _).mono ?_
  rintro e w7 ⟨rfl, hb1⟩
  have H7 := Lib.hid (H6.out.step hb1)
  clear hb1
  go_wp2_with fail
  go_ret
  exact ⟨rfl, H7.out.below⟩
end Go.Proofs.Ytgbjhlkjceonpaa.rowsBoots
