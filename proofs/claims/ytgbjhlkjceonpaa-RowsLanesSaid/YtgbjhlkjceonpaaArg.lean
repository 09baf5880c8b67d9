/- Rows and lanes as they come in. -/
import Derived.Test.YtgbjhlkjceonpaaFirst
import Derived.Test.YtgbjhlkjceonpaaHarn
import Derived.Deep.Slices
import Derived.Deep.Fields
import Derived.Lib.SmallJoins
namespace Go.Proofs.Ytgbjhlkjceonpaa.Help
open Go.ChangeShapes Go.WideShapes Go.ChangeAt Go.RowKit Go.Proofs.Ytgbjhlkjceonpaa.K
set_option linter.unusedVariables false
theorem cellsOf_u8 : Try.prog.cellsOf 5 = 1 := by kernel_rfl
theorem bytesOf_u8 : Try.prog.bytesOf 5 = 1 := by kernel_rfl
theorem cellsOf_bytes : Try.prog.cellsOf 22 = 1 := by kernel_rfl
theorem cellsOf_row : Try.prog.cellsOf 29 = 2 := by kernel_rfl
theorem cellsOf_lane : Try.prog.cellsOf 27 = 8 := by kernel_rfl
theorem cellsOf_stamp : Try.prog.cellsOf 25 = 2 := by kernel_rfl
theorem cellsOf_int : Try.prog.cellsOf 3 = 1 := by kernel_rfl
theorem cellsOf_u64 : Try.prog.cellsOf 23 = 1 := by kernel_rfl
def Small {H : Type} (d : DataW H) (t : TypeId) : Prop := ∀ n ∈ d.weights Try.prog t, n ≤ reachBytes
theorem trod_bytes {H : Type} {enc : TypeId × Value → H} {W : World} {fuel : Nat} {cs : List Value} {y : DataW H × List MemPlace} (h : DataW.trod enc Try.prog W 0 (fun _ => true) true fuel 22 cs = some y) (hz : Small y.1 22) :
    ∃ A c l, cs = [.slice A l.length c] ∧ Bs W A c l := by
  rcases open_ints u_slice8 u_u8 cellsOf_u8 h with ⟨rfl, rfl⟩ | ⟨a, len, cap, zs, rfl, _, hl, hm, hlen, rfl, hcell, hwf⟩
  · exact ⟨none, 0, [], rfl, Bs.nil _ _ _⟩
  · simp only [if_true] at hlen
    have hr : zs.length ≤ reachBytes := by
      have := hz ((lits .u8 (zs.take len) : List (DataW H)).length + (lits .u8 (zs.drop len) : List (DataW H)).length) (by simp [DataW.weights, u_slice8, bytesOf_u8])
      have e : ((lits .u8 (zs.take len) : List (DataW H)).length + (lits .u8 (zs.drop len) : List (DataW H)).length) = zs.length := by
        simp [lits]
        omega
      rwa [e] at this
    have hr2 : reachBytes = 140737488351232 := rfl
    have hll : ((zs.take len).map fun n => UInt8.ofNat n.toNat).length = len := by simp; omega
    refine ⟨some a, cap, (zs.take len).map fun n => UInt8.ofNat n.toNat, by rw [hll], by rw [hll]; exact hl, by rw [hll]; omega, fun i hi => ?_⟩
    rw [hll] at hi
    have hc := hcell i (by omega)
    have hlt := World.block_lt_of_cell? W _ hc
    rw [addr_add_block] at hlt
    refine ⟨a, rfl, hlt, hc.trans ?_⟩
    have hi' : i < zs.length := by omega
    have hw := hwf _ (List.getElem_mem hi')
    have hw2 : 0 ≤ zs[i] ∧ zs[i] ≤ 255 := by simpa [Lit.wf, IntKind.min, IntKind.max, IntKind.signed, IntKind.bits] using hw
    have e1 : zs.getD i 0 = zs[i] := by simp [hi']
    have e2 : ((zs.take len).map fun n => UInt8.ofNat n.toNat).getD i 0 = UInt8.ofNat zs[i].toNat := by simp [hi, hi']
    rw [e1, e2]
    congr 2
    simp
    omega
theorem arr2 {cs : Array Value} (h : cs.size = 2) : ∃ c0 c1, cs = #[c0, c1] := by
  obtain ⟨l⟩ := cs
  match l, h with
  | [c0, c1], _ => exact ⟨c0, c1, rfl⟩
set_option maxRecDepth 100000 in
theorem arg_row {H : Type} {enc : TypeId × Value → H} {W : World} {b0 : Nat} {v : Value} {d : DataW H} {ps : List MemPlace}
    (hval : Value.okWide Try.prog W .any b0 29 v) (h : DataW.Trod enc Try.prog W 0 (fun _ => true) true 29 v d ps) (hz : Small d 29) :
    ∃ A B a b k x, v = .agg #[.slice A k.length a, .slice B x.length b] ∧ Bs W A a k ∧ Bs W B b x := by
  obtain ⟨cs, rfl, hsz⟩ := okWide_struct Try.underlying29 hval
  obtain ⟨c0, c1, rfl⟩ := arr2 (hsz.trans cellsOf_row)
  obtain ⟨fuel, hf⟩ := h
  obtain ⟨xs, n', _, hx, hl, hxs, hfl⟩ := DataW.trod_struct Try.underlying29 hf
  have f0 : DataW.trod enc Try.prog W 0 (fun _ => true) true n' 22 (([c0, c1].drop 0).take (Try.prog.cellsOf 22)) = xs[0]? := hfl 0 _ rfl
  have f1 : DataW.trod enc Try.prog W 0 (fun _ => true) true n' 22 (([c0, c1].drop 1).take (Try.prog.cellsOf 22)) = xs[1]? := hfl 1 _ rfl
  rw [cellsOf_bytes] at f0 f1
  have hxl : xs.length = 2 := hxs
  match xs, hxl with
  | [y0, y1], _ =>
    injection hx with hd hp
    subst hd
    have w0 : Small y0.1 22 := fun n hn => hz n (by simp only [DataW.weights, Try.underlying29]; simp [DataW.weightsEach]; exact .inl hn)
    have w1 : Small y1.1 22 := fun n hn => hz n (by simp only [DataW.weights, Try.underlying29]; simp [DataW.weightsEach]; exact .inr hn)
    obtain ⟨A, a, k, e0, s0⟩ := trod_bytes f0 w0
    obtain ⟨B, b, x, e1, s1⟩ := trod_bytes f1 w1
    simp at e0 e1
    subst e0 e1
    exact ⟨A, B, a, b, k, x, rfl, s0, s1⟩
theorem arr8 {cs : Array Value} (h : cs.size = 8) : ∃ c0 c1 c2 c3 c4 c5 c6 c7, cs = #[c0, c1, c2, c3, c4, c5, c6, c7] := by
  obtain ⟨l⟩ := cs
  match l, h with
  | [c0, c1, c2, c3, c4, c5, c6, c7], _ => exact ⟨c0, c1, c2, c3, c4, c5, c6, c7, rfl⟩
set_option maxRecDepth 100000 in
theorem arg_lane {H : Type} {enc : TypeId × Value → H} {W : World} {b0 : Nat} {v : Value} {d : DataW H} {ps : List MemPlace}
    (hval : Value.okWide Try.prog W .any b0 27 v) (h : DataW.Trod enc Try.prog W 0 (fun _ => true) true 27 v d ps) (hz : Small d 27) :
    ∃ A a l, v = laneV A a l ∧ Bs W A a l.key ∧ LaneB l := by
  obtain ⟨cs, rfl, hsz⟩ := okWide_struct Try.underlying27 hval
  obtain ⟨c0, c1, c2, c3, c4, c5, c6, c7, rfl⟩ := arr8 (hsz.trans cellsOf_lane)
  obtain ⟨fuel, hf⟩ := h
  obtain ⟨xs, n', _, hx, hl, hxs, hfl⟩ := DataW.trod_struct Try.underlying27 hf
  have f0 : DataW.trod enc Try.prog W 0 (fun _ => true) true n' 22 (([c0, c1, c2, c3, c4, c5, c6, c7].drop 0).take (Try.prog.cellsOf 22)) = xs[0]? := hfl 0 _ rfl
  have f1 : DataW.trod enc Try.prog W 0 (fun _ => true) true n' 3 (([c0, c1, c2, c3, c4, c5, c6, c7].drop 1).take (Try.prog.cellsOf 3)) = xs[1]? := hfl 1 _ rfl
  have f2 : DataW.trod enc Try.prog W 0 (fun _ => true) true n' 3 (([c0, c1, c2, c3, c4, c5, c6, c7].drop 2).take (Try.prog.cellsOf 3)) = xs[2]? := hfl 2 _ rfl
  have f3 : DataW.trod enc Try.prog W 0 (fun _ => true) true n' 3 (([c0, c1, c2, c3, c4, c5, c6, c7].drop 3).take (Try.prog.cellsOf 3)) = xs[3]? := hfl 3 _ rfl
  have f4 : DataW.trod enc Try.prog W 0 (fun _ => true) true n' 23 (([c0, c1, c2, c3, c4, c5, c6, c7].drop 4).take (Try.prog.cellsOf 23)) = xs[4]? := hfl 4 _ rfl
  have f5 : DataW.trod enc Try.prog W 0 (fun _ => true) true n' 23 (([c0, c1, c2, c3, c4, c5, c6, c7].drop 5).take (Try.prog.cellsOf 23)) = xs[5]? := hfl 5 _ rfl
  have f6 : DataW.trod enc Try.prog W 0 (fun _ => true) true n' 25 (([c0, c1, c2, c3, c4, c5, c6, c7].drop 6).take (Try.prog.cellsOf 25)) = xs[6]? := hfl 6 _ rfl
  rw [cellsOf_bytes] at f0
  rw [cellsOf_int] at f1 f2 f3
  rw [cellsOf_u64] at f4 f5
  rw [cellsOf_stamp] at f6
  have hxl : xs.length = 7 := hxs
  match xs, hxl with
  | [y0, y1, y2, y3, y4, y5, y6], _ =>
    injection hx with hd hp
    subst hd
    have w0 : Small y0.1 22 := fun n hn => hz n (by simp only [DataW.weights, Try.underlying27]; simp [DataW.weightsEach]; exact .inl hn)
    obtain ⟨A, a, k, e0, s0⟩ := trod_bytes f0 w0
    obtain ⟨z1, e1, _, q1⟩ := DataW.trod_int Try.underlying3 f1
    obtain ⟨z2, e2, _, q2⟩ := DataW.trod_int Try.underlying3 f2
    obtain ⟨z3, e3, _, q3⟩ := DataW.trod_int Try.underlying3 f3
    obtain ⟨z4, e4, _, q4⟩ := DataW.trod_int Try.underlying23 f4
    obtain ⟨z5, e5, _, q5⟩ := DataW.trod_int Try.underlying23 f5
    obtain ⟨ys, n2, _, _, _, hys, hfs⟩ := DataW.trod_struct Try.underlying25 f6
    have g0 : DataW.trod enc Try.prog W 0 (fun _ => true) true n2 3 (([c6, c7].drop 0).take (Try.prog.cellsOf 3)) = ys[0]? := hfs 0 _ rfl
    have g1 : DataW.trod enc Try.prog W 0 (fun _ => true) true n2 3 (([c6, c7].drop 1).take (Try.prog.cellsOf 3)) = ys[1]? := hfs 1 _ rfl
    rw [cellsOf_int] at g0 g1
    have hyl : ys.length = 2 := hys
    match ys, hyl with
    | [u0, u1], _ =>
      obtain ⟨z6, e6, _, q6⟩ := DataW.trod_int Try.underlying3 g0
      obtain ⟨z7, e7, _, q7⟩ := DataW.trod_int Try.underlying3 g1
      simp at e0 e1 e2 e3 e4 e5 e6 e7
      subst e0 e1 e2 e3 e4 e5 e6 e7
      obtain ⟨m4, rfl, b4⟩ := nat_u64 q4
      obtain ⟨m5, rfl, b5⟩ := nat_u64 q5
      have b6 := wf_i64 q6
      exact ⟨A, a, ⟨k, z1, z2, z3, m4, m5, z6, z7⟩, rfl, s0, ⟨b4, b5, b6.2⟩⟩
end Go.Proofs.Ytgbjhlkjceonpaa.Help
