/- RowsSets: for every input the law answers true and leaves its arguments as they were. No conditions. -/
import Derived.Test.YtgbjhlkjceonpaaGreatRowsSetsB6
import Derived.JoinedOf
namespace Go.Proofs.YtgbjhlkjceonpaaGreat.rowsSets
open Go.ChangeShapes Go.WideShapes Go.ChangeAt Go.RowKit Go.Proofs.YtgbjhlkjceonpaaGreat.K
set_option linter.unusedVariables false
theorem own : ownKnob Tryz.prog.godebug = none := by kernel_rfl
theorem laidOut : laidOutB Tryz.prog = true := by kernel_rfl
theorem readable : ∀ t ∈ Tryz.f4.params.toList, Tryz.prog.readableRec t = true ∧ t < Tryz.prog.types.size := by
  rw [Tryz.params4]
  intro t ht
  simp only [List.mem_cons, List.not_mem_nil, or_false] at ht
  rcases ht with rfl
  all_goals exact ⟨by kernel_rfl, of_decide_eq_true (by kernel_rfl)⟩
set_option maxRecDepth 100000 in
theorem lifted (os : Os) (started : os.Started) (H : Type) (enc : TypeId × Value → H) :
    ReturnsInHanded {} Tryz.checked os 4 .any (Rows.rowsSetsSpec.pre6 enc Tryz.prog Tryz.f4 Rows.rowsSetsRow.domain false) (Rows.rowsSetsSpec.post enc Tryz.prog Tryz.f4 false true false false) := by
  refine returnsInHanded_of_change_sized (C := Tryz.checked) own started (by kernel_rfl) Tryz.func4
    (ChangeSpec.witness6 (enc := enc) (C := Tryz.checked) false ⟨#[], #[.agg #[.slice none 0 0, .slice none 0 0, .slice none 0 0, .slice none 0 0]], []⟩ 8 (by kernel_rfl) (by kernel_rfl) (by kernel_rfl) (by kernel_rfl)) ?_
  intro W base args ds gs before hval0 hW _ hz _
  have hval : ∀ (j : Nat) t v, Tryz.f4.params[j]? = some t → args[j]? = some v → Value.okWide Tryz.prog W .any base t v := hval0
  have hW' := hW
  obtain ⟨p, q, hA0, hV, rfl, _, _⟩ := hW
  have hA : DataW.TrodAll enc Tryz.prog W 0 (fun _ => true) true Tryz.f4.params.toList args.toList ds p := hA0
  rw [Tryz.params4] at hA hval
  obtain ⟨v0, vs0, d0, ds0, p0, q0, hargs, rfl, rfl, h0, r0⟩ := trodAll_cons hA
  obtain ⟨rfl, rfl, rfl⟩ := trodAll_nil r0
  obtain rfl : args = #[v0] := by cases args; simp_all
  obtain ⟨rfl, rfl⟩ := trodVars_none hV
  rw [Tryz.params4] at hz
  have z0 : Help.Small d0 37 := fun n hn => by simpa using List.all_eq_true.1 hz n (DataW.weights_mem_each (j := 0) rfl rfl n hn)
  obtain ⟨A0, A0', B0, B0', a0, a0', b0, b0', ps0, ps0', ls0, ls0', rfl, s10, s20, s30, s40⟩ := Lst.arg_case (hval 0 37 v0 rfl rfl) h0 z0
  clear hA0
  refine (walk A0 A0' B0 B0' a0 a0' b0 b0' ps0 ps0' ls0 ls0' W s10 s20 s30 s40).mono fun e W' ⟨he, hb⟩ => ?_
  subst he
  exact ⟨_, rfl, post_law (s := Rows.rowsSetsSpec) laidOut readable hW' rfl rfl (by kernel_rfl) Tryz.underlying4 hb⟩
theorem over : Rows.rowsSetsRow.holds Tryz.pinned (OpenSpec.ofChange Rows.rowsSetsSpec) :=
  OpenClaim.holds_of_wide 4 Tryz.f4 rfl rfl rfl rfl rfl rfl rfl ⟨rfl, rfl, rfl, rfl, rfl⟩ rfl rfl rfl rfl rfl (by kernel_rfl) Tryz.func4 (by kernel_rfl)
    (of_decide_eq_true (by kernel_rfl)) (by unfold Func.isWrapper; first | (rw [if_pos (by decide +kernel)]; kernel_rfl) | (rw [if_neg (by decide +kernel)]; exact ⟨rfl, rfl⟩))
    (fun os started H enc _ => lifted os started H enc)
end Go.Proofs.YtgbjhlkjceonpaaGreat.rowsSets
namespace Go.Proofs.YtgbjhlkjceonpaaGreat
theorem rowsSets_holds : Rows.RowsSetsSaid := rowsSets.over
#print axioms rowsSets_holds
end Go.Proofs.YtgbjhlkjceonpaaGreat
