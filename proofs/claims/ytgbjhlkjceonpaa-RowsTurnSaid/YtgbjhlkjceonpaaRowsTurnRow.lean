/- RowsTurn: for every input the law answers true and leaves its arguments as they were. No conditions. -/
import Derived.Test.YtgbjhlkjceonpaaRowsTurnB5
import Derived.JoinedOf
namespace Go.Proofs.Ytgbjhlkjceonpaa.rowsTurn
open Go.ChangeShapes Go.WideShapes Go.ChangeAt Go.RowKit Go.Proofs.Ytgbjhlkjceonpaa.K
set_option linter.unusedVariables false
theorem own : ownKnob Try.prog.godebug = none := by kernel_rfl
theorem laidOut : laidOutB Try.prog = true := by kernel_rfl
theorem readable : ∀ t ∈ Try.f7.params.toList, Try.prog.readableRec t = true ∧ t < Try.prog.types.size := by
  rw [Try.params7]
  intro t ht
  simp only [List.mem_cons, List.not_mem_nil, or_false] at ht
  rcases ht with rfl
  all_goals exact ⟨by kernel_rfl, of_decide_eq_true (by kernel_rfl)⟩
set_option maxRecDepth 100000 in
theorem lifted (os : Os) (started : os.Started) (H : Type) (enc : TypeId × Value → H) :
    ReturnsInHanded {} Try.checked os 7 .any (Rows.rowsTurnSpec.pre6 enc Try.prog Try.f7 Rows.rowsTurnRow.domain false) (Rows.rowsTurnSpec.post enc Try.prog Try.f7 false true false false) := by
  refine returnsInHanded_of_change_sized (C := Try.checked) own started (by kernel_rfl) Try.func7
    (ChangeSpec.witness6 (enc := enc) (C := Try.checked) false ⟨#[], #[.agg #[.slice none 0 0, .slice none 0 0, .slice none 0 0, .slice none 0 0]], []⟩ 8 (by kernel_rfl) (by kernel_rfl) (by kernel_rfl) (by kernel_rfl)) ?_
  intro W base args ds gs before hval0 hW _ hz _
  have hval : ∀ (j : Nat) t v, Try.f7.params[j]? = some t → args[j]? = some v → Value.okWide Try.prog W .any base t v := hval0
  have hW' := hW
  obtain ⟨p, q, hA0, hV, rfl, _, _⟩ := hW
  have hA : DataW.TrodAll enc Try.prog W 0 (fun _ => true) true Try.f7.params.toList args.toList ds p := hA0
  rw [Try.params7] at hA hval
  obtain ⟨v0, vs0, d0, ds0, p0, q0, hargs, rfl, rfl, h0, r0⟩ := trodAll_cons hA
  obtain ⟨rfl, rfl, rfl⟩ := trodAll_nil r0
  obtain rfl : args = #[v0] := by cases args; simp_all
  obtain ⟨rfl, rfl⟩ := trodVars_none hV
  rw [Try.params7] at hz
  have z0 : Help.Small d0 70 := fun n hn => by simpa using List.all_eq_true.1 hz n (DataW.weights_mem_each (j := 0) rfl rfl n hn)
  obtain ⟨A0, A0', B0, B0', a0, a0', b0, b0', ps0, ps0', ls0, ls0', rfl, s10, s20, s30, s40⟩ := Lst.arg_case (hval 0 70 v0 rfl rfl) h0 z0
  clear hA0
  refine (walk A0 A0' B0 B0' a0 a0' b0 b0' ps0 ps0' ls0 ls0' W s10 s20 s30 s40).mono fun e W' ⟨he, hb⟩ => ?_
  subst he
  exact ⟨_, rfl, post_law (s := Rows.rowsTurnSpec) laidOut readable hW' rfl rfl (by kernel_rfl) Try.underlying4 hb⟩
theorem over : Rows.rowsTurnRow.holds Try.pinned (OpenSpec.ofChange Rows.rowsTurnSpec) :=
  OpenClaim.holds_of_wide 7 Try.f7 rfl rfl rfl rfl rfl rfl rfl ⟨rfl, rfl, rfl, rfl, rfl⟩ rfl rfl rfl rfl rfl (by kernel_rfl) Try.func7 (by kernel_rfl)
    (of_decide_eq_true (by kernel_rfl)) (by unfold Func.isWrapper; first | (rw [if_pos (by decide +kernel)]; kernel_rfl) | (rw [if_neg (by decide +kernel)]; exact ⟨rfl, rfl⟩))
    (fun os started H enc _ => lifted os started H enc)
end Go.Proofs.Ytgbjhlkjceonpaa.rowsTurn
namespace Go.Proofs.Ytgbjhlkjceonpaa
theorem rowsTurn_holds : Rows.RowsTurnSaid := rowsTurn.over
#print axioms rowsTurn_holds
end Go.Proofs.Ytgbjhlkjceonpaa
