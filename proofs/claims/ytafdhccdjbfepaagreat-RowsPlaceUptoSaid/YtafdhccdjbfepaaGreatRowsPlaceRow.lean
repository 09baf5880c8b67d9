/- RowsPlace: for every input the law answers true and leaves its arguments as they were. No conditions. -/
import Derived.Test.YtafdhccdjbfepaaGreatRowsPlaceB7
import Derived.JoinedOf
import Derived.JoinedCond
import Derived.Deep.CondSized
namespace Go.Proofs.YtafdhccdjbfepaaGreat.rowsPlace
open Go.ChangeShapes Go.WideShapes Go.ChangeAt Go.RowKit Go.Proofs.YtafdhccdjbfepaaGreat.K
set_option linter.unusedVariables false
theorem own : ownKnob Tryz.prog.godebug = none := by kernel_rfl
theorem laidOut : laidOutB Tryz.prog = true := by kernel_rfl
theorem readable : ∀ t ∈ Tryz.f3.params.toList, Tryz.prog.readableRec t = true ∧ t < Tryz.prog.types.size := by
  rw [Tryz.params3]
  intro t ht
  simp only [List.mem_cons, List.not_mem_nil, or_false] at ht
  rcases ht with rfl | rfl
  all_goals exact ⟨by kernel_rfl, of_decide_eq_true (by kernel_rfl)⟩
set_option maxRecDepth 100000 in
theorem lifted (os : Os) (started : os.Started) (H : Type) (enc : TypeId × Value → H) (F : Stop.Interp) :
    ReturnsInHanded {} Tryz.checked os 3 .any ((Rows.OpenSpec.upto Rows.rowsPlaceSpec).pre6 enc Tryz.prog Tryz.f3 Rows.rowsPlaceUptoRow.domain false) (((Rows.OpenSpec.upto Rows.rowsPlaceSpec).at F).post enc Tryz.prog Tryz.f3 false true false false) := by
  refine returnsInHanded_of_cond_sized (C := Tryz.checked) (s := Rows.OpenSpec.upto Rows.rowsPlaceSpec) (k := Rows.uptoSmall) rfl own started (by kernel_rfl) Tryz.func3
    (OpenSpec.witness (enc := enc) (C := Tryz.checked) (s := Rows.OpenSpec.upto Rows.rowsPlaceSpec) (k := Rows.uptoSmall) rfl false ⟨#[], #[.agg #[.slice none 0 0, .slice none 0 0, .slice none 0 0, .slice none 0 0], .slice none 0 0], []⟩ 8 (by kernel_rfl) (by kernel_rfl) (by kernel_rfl) (x := ([.agg [.nil, .nil, .nil, .nil], .nil], [], [])) (by kernel_rfl) rfl (by kernel_rfl)) ?_
  intro W base args ds gs before hval0 hW _ hk hz _
  have hval : ∀ (j : Nat) t v, Tryz.f3.params[j]? = some t → args[j]? = some v → Value.okWide Tryz.prog W .any base t v := hval0
  have hW' := hW
  obtain ⟨p, q, hA0, hV, rfl, _, _⟩ := hW
  have hA : DataW.TrodAll enc Tryz.prog W 0 (fun _ => true) true Tryz.f3.params.toList args.toList ds p := hA0
  rw [Tryz.params3] at hA hval
  obtain ⟨v0, vs0, d0, ds0, p0, q0, hargs, rfl, rfl, h0, r0⟩ := trodAll_cons hA
  obtain ⟨v1, vs1, d1, ds1, p1, q1, rfl, rfl, rfl, h1, r1⟩ := trodAll_cons r0
  obtain ⟨rfl, rfl, rfl⟩ := trodAll_nil r1
  obtain rfl : args = #[v0, v1] := by cases args; simp_all
  obtain ⟨rfl, rfl⟩ := trodVars_none hV
  rw [Tryz.params3] at hz
  have z0 : Help.Small d0 25 := fun n hn => by simpa using List.all_eq_true.1 hz n (DataW.weights_mem_each (j := 0) rfl rfl n hn)
  obtain ⟨A0, A0', B0, B0', a0, a0', b0, b0', ps0, ps0', ls0, ls0', rfl, s10, s20, s30, s40⟩ := Lst.arg_case (hval 0 25 v0 rfl rfl) h0 z0
  have z1 : Help.Small d1 26 := fun n hn => by simpa using List.all_eq_true.1 hz n (DataW.weights_mem_each (j := 1) rfl rfl n hn)
  obtain ⟨A1, a1, l1, rfl, sl1⟩ := Lst.arg_rows (hval 1 26 v1 rfl rfl) h1 z1
  clear hA0
  refine (walk A0 A0' B0 B0' a0 a0' b0 b0' ps0 ps0' ls0 ls0' A1 a1 l1 W s10 s20 s30 s40 sl1).mono fun e W' ⟨he, hb⟩ => ?_
  subst he
  exact ⟨_, rfl, post_law (s := Rows.rowsPlaceSpec) laidOut readable hW' rfl rfl (by kernel_rfl) Tryz.underlying4 hb⟩
theorem over : Rows.rowsPlaceUptoRow.holds Tryz.pinned (Rows.OpenSpec.upto Rows.rowsPlaceSpec) :=
  OpenClaim.holds_of_cond 3 Tryz.f3 rfl rfl rfl rfl rfl rfl rfl ⟨rfl, rfl, rfl, rfl, rfl⟩ rfl rfl rfl rfl rfl (by kernel_rfl) Tryz.func3 (by kernel_rfl)
    (of_decide_eq_true (by kernel_rfl)) (by unfold Func.isWrapper; first | (rw [if_pos (by decide +kernel)]; kernel_rfl) | (rw [if_neg (by decide +kernel)]; exact ⟨rfl, rfl⟩))
    (fun os started H enc _ F => lifted os started H enc F)
end Go.Proofs.YtafdhccdjbfepaaGreat.rowsPlace
namespace Go.Proofs.YtafdhccdjbfepaaGreat
theorem rowsPlace_upto : Rows.RowsPlaceUptoSaid := rowsPlace.over
#print axioms rowsPlace_upto
end Go.Proofs.YtafdhccdjbfepaaGreat
