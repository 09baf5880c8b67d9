/- A slice of the law's Op as it comes in. -/
import Derived.Test.YthiiobhogkenhaaPlaysW
import Derived.Deep.Slices
import Derived.Deep.Fields
namespace Go.Proofs.Ythiiobhogkenhaa.windowPlays
open Go.ChangeShapes Go.WideShapes Go.ChangeAt Go.RowKit Go.Proofs.Ythiiobhogkenhaa.K
set_option linter.unusedVariables false
theorem cellsOf_op : Try.prog.cellsOf 29 = 3 := by kernel_rfl
theorem cellsOf_int : Try.prog.cellsOf 3 = 1 := by kernel_rfl
theorem cellsOf_bool : Try.prog.cellsOf 4 = 1 := by kernel_rfl
theorem cellsOf_u64 : Try.prog.cellsOf 22 = 1 := by kernel_rfl
theorem op_fields {H : Type} {enc : TypeId × Value → H} {W : World} {n : Nat} {cs : List Value} {y : DataW H × List MemPlace} (h : DataW.trod enc Try.prog W 0 (fun _ => true) true n 29 cs = some y) :
    ∃ (k : Int) (b : Bool) (c : Int), cs = [.int .i64 k, .bool b, .int .u64 c] ∧ (Lit.int .u64 c).wf = true := by
  obtain ⟨xs, n', _, _, hl, _, hf⟩ := DataW.trod_struct Try.underlying29 h
  rw [cellsOf_op] at hl
  have f0 : DataW.trod enc Try.prog W 0 (fun _ => true) true n' 3 ((cs.drop 0).take (Try.prog.cellsOf 3)) = xs[0]? := hf 0 _ rfl
  have f1 : DataW.trod enc Try.prog W 0 (fun _ => true) true n' 4 ((cs.drop 1).take (Try.prog.cellsOf 4)) = xs[1]? := hf 1 _ rfl
  have f2 : DataW.trod enc Try.prog W 0 (fun _ => true) true n' 22 ((cs.drop 2).take (Try.prog.cellsOf 22)) = xs[2]? := hf 2 _ rfl
  rw [cellsOf_int] at f0
  rw [cellsOf_bool] at f1
  rw [cellsOf_u64] at f2
  match cs, hl with
  | [v0, v1, v2], _ =>
    have hx : xs.length = 3 := by assumption
    match xs, hx with
    | [y0, y1, y2], _ =>
      obtain ⟨k, e0, _, _⟩ := DataW.trod_int Try.underlying3 f0
      obtain ⟨b, e1, _⟩ := DataW.trod_bool Try.underlying4 f1
      obtain ⟨c, e2, _, hw⟩ := DataW.trod_int Try.underlying22 f2
      simp at e0 e1 e2
      subst e0 e1 e2
      exact ⟨k, b, c, rfl, hw⟩
theorem arg_ops {H : Type} {enc : TypeId × Value → H} {W : World} {b0 : Nat} {v : Value} {d : DataW H} {ps : List MemPlace}
    (hval : Value.okWide Try.prog W .any b0 23 v) (h : DataW.Trod enc Try.prog W 0 (fun _ => true) true 23 v d ps) : ∃ A len cap xs, v = .slice A len cap ∧ ReadsO W A len xs ∧ xs.length = len ∧ len ≤ cap ∧ cap ≤ 9223372036854775807 := by
  obtain ⟨a0, len, cap, rfl⟩ := okWide_slice Try.underlying23 hval
  obtain ⟨fuel, hf⟩ := h
  rcases Go.Deep.open_slice Try.underlying23 hf with ⟨hcs, hx⟩ | ⟨a, len', cap', m, n, D, Pl, hcs, _, hl, hm, hmm, hx, hcell⟩
  · simp [Value.cells] at hcs
    obtain ⟨rfl, rfl, rfl⟩ := hcs
    exact ⟨none, 0, 0, [], rfl, ⟨rfl, by omega, (fun x hx => by cases hx), fun i hi => by omega⟩, rfl, by omega, by omega⟩
  · simp [Value.cells] at hcs
    obtain ⟨rfl, rfl, rfl⟩ := hcs
    simp only [if_true] at hmm
    rw [cellsOf_op, hmm] at hcell
    unfold maxLen at hm
    have hone : ∀ i, i < len → ∃ x : Int × Bool × Nat, x.2.2 < 18446744073709551616 ∧ W.cell? (a.add (i * 3)) = some (.int .i64 x.1) ∧ W.cell? ((a.add (i * 3)).add 1) = some (.bool x.2.1) ∧ W.cell? ((a.add (i * 3)).add 2) = some (.int .u64 (x.2.2 : Int)) := fun i hi => by
      obtain ⟨cs', hc, ht⟩ := hcell i (by omega)
      obtain ⟨_, hlc, hat⟩ := World.cells?_some hc
      obtain ⟨k, b, c, rfl, hw⟩ := op_fields ht
      obtain ⟨c', rfl, hlt⟩ := nat_u64 hw
      have h0 := hat 0 (by omega)
      have h1 := hat 1 (by omega)
      have h2 := hat 2 (by omega)
      have e0 : (a.add (i * 3)).add 0 = a.add (i * 3) := by unfold Addr.add; simp
      rw [e0] at h0
      exact ⟨(k, b, c'), hlt, h0, h1, h2⟩
    obtain ⟨f, hf⟩ : ∃ f : Nat → Int × Bool × Nat, ∀ i, i < len → (f i).2.2 < 18446744073709551616 ∧ W.cell? (a.add (i * 3)) = some (.int .i64 (f i).1) ∧ W.cell? ((a.add (i * 3)).add 1) = some (.bool (f i).2.1) ∧ W.cell? ((a.add (i * 3)).add 2) = some (.int .u64 ((f i).2.2 : Int)) :=
      ⟨fun i => if h : i < len then (hone i h).choose else (0, false, 0), fun i hi => by simp only [hi, dif_pos]; exact (hone i hi).choose_spec⟩
    refine ⟨some a, len, cap, (List.range len).map f, rfl, ⟨by simp, by omega, fun x hx => ?_, fun i hi => ?_⟩, by simp, hl, by omega⟩
    · obtain ⟨i, hi, rfl⟩ := List.mem_map.1 hx
      exact (hf i (List.mem_range.1 hi)).1
    · obtain ⟨_, h0, h1, h2⟩ := hf i hi
      have hg : ((List.range len).map f).getD i (0, false, 0) = f i := by simp [hi]
      rw [hg]
      obtain ⟨bk, off, spot⟩ := a
      have hs : spot = none := by
        have h := (hf 0 (by omega)).2.1
        have e0 : (⟨bk, off, spot⟩ : Addr).add (0 * 3) = ⟨bk, off, spot⟩ := by unfold Addr.add; simp
        rw [e0] at h
        exact World.cell?_spot h
      subst hs
      have ea : ∀ j, (⟨bk, off, none⟩ : Addr).add j = ⟨bk, off + j, none⟩ := fun j => by unfold Addr.add; split <;> simp_all
      have eb : ∀ o j, (⟨bk, o, none⟩ : Addr).add j = ⟨bk, o + j, none⟩ := fun o j => by unfold Addr.add; split <;> simp_all
      rw [ea] at h0 h1 h2
      rw [eb] at h1 h2
      exact ⟨bk, off, rfl, World.block_lt_of_cell? W _ h0, h0, h1, h2⟩
end Go.Proofs.Ythiiobhogkenhaa.windowPlays
