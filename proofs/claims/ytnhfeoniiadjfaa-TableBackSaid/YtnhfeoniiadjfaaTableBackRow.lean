/- TableBack: for every input the law answers true and leaves its arguments as they were. No conditions. -/
import Derived.Test.YtnhfeoniiadjfaaC8
import Derived.JoinedOf
namespace Go.Proofs.Ytnhfeoniiadjfaa.tableBack
open Go.ChangeShapes Go.WideShapes Go.ChangeAt Go.RowKit Go.Proofs.Ytnhfeoniiadjfaa.K
set_option linter.unusedVariables false
theorem own : ownKnob Try.prog.godebug = none := by kernel_rfl
theorem laidOut : laidOutB Try.prog = true := by kernel_rfl
theorem readable : ∀ t ∈ Try.f8.params.toList, Try.prog.readableRec t = true ∧ t < Try.prog.types.size := by
  rw [Try.params8]
  intro t ht
  simp only [List.mem_cons, List.not_mem_nil, or_false] at ht
  rcases ht with rfl | rfl | rfl
  all_goals exact ⟨by kernel_rfl, of_decide_eq_true (by kernel_rfl)⟩
set_option maxRecDepth 100000 in
theorem lifted (os : Os) (started : os.Started) (H : Type) (enc : TypeId × Value → H) :
    ReturnsInHanded {} Try.checked os 8 .any (Rows.tableBackSpec.pre6 enc Try.prog Try.f8 Rows.tableBackRow.domain false) (Rows.tableBackSpec.post enc Try.prog Try.f8 false true false false) := by
  refine returnsInHanded_of_change_sized (C := Try.checked) own started (by kernel_rfl) Try.func8
    (ChangeSpec.witness6 (enc := enc) (C := Try.checked) false ⟨#[], #[.slice none 0 0, .slice none 0 0, .slice none 0 0], []⟩ 8 (by kernel_rfl) (by kernel_rfl) (by kernel_rfl) (by kernel_rfl)) ?_
  intro W base args ds gs before hval0 hW _ hz _
  have hval : ∀ (j : Nat) t v, Try.f8.params[j]? = some t → args[j]? = some v → Value.okWide Try.prog W .any base t v := hval0
  have hW' := hW
  obtain ⟨p, q, hA0, hV, rfl, _, _⟩ := hW
  have hA : DataW.TrodAll enc Try.prog W 0 (fun _ => true) true Try.f8.params.toList args.toList ds p := hA0
  rw [Try.params8] at hA hval
  obtain ⟨v0, vs0, d0, ds0, p0, q0, hargs, rfl, rfl, h0, r0⟩ := trodAll_cons hA
  obtain ⟨v1, vs1, d1, ds1, p1, q1, rfl, rfl, rfl, h1, r1⟩ := trodAll_cons r0
  obtain ⟨v2, vs2, d2, ds2, p2, q2, rfl, rfl, rfl, h2, r2⟩ := trodAll_cons r1
  obtain ⟨rfl, rfl, rfl⟩ := trodAll_nil r2
  obtain rfl : args = #[v0, v1, v2] := by cases args; simp_all
  obtain ⟨rfl, rfl⟩ := trodVars_none hV
  rw [Try.params8] at hz
  have z0 : Help.Small d0 22 := fun n hn => by simpa using List.all_eq_true.1 hz n (DataW.weights_mem_each (j := 0) rfl rfl n hn)
  obtain ⟨A0, a0, l0, rfl, sl0⟩ := Lst.arg_sets (hval 0 22 v0 rfl rfl) h0 z0
  have z1 : Help.Small d1 22 := fun n hn => by simpa using List.all_eq_true.1 hz n (DataW.weights_mem_each (j := 1) rfl rfl n hn)
  obtain ⟨A1, a1, l1, rfl, sl1⟩ := Lst.arg_sets (hval 1 22 v1 rfl rfl) h1 z1
  have z2 : Help.Small d2 27 := fun n hn => by simpa using List.all_eq_true.1 hz n (DataW.weights_mem_each (j := 2) rfl rfl n hn)
  obtain ⟨A2, a2, l2, rfl, sl2⟩ := Lst.arg_bytes (hval 2 27 v2 rfl rfl) h2 z2
  clear hA0
  refine (walk A0 a0 l0 A1 a1 l1 A2 a2 l2 W sl0 sl1 sl2).mono fun e W' ⟨he, hb⟩ => ?_
  subst he
  exact ⟨_, rfl, post_law (s := Rows.tableBackSpec) laidOut readable hW' rfl rfl (by kernel_rfl) Try.underlying4 hb⟩
theorem over : Rows.tableBackRow.holds Try.pinned (OpenSpec.ofChange Rows.tableBackSpec) :=
  OpenClaim.holds_of_wide 8 Try.f8 rfl rfl rfl rfl rfl rfl rfl ⟨rfl, rfl, rfl, rfl, rfl⟩ rfl rfl rfl rfl rfl (by kernel_rfl) Try.func8 (by kernel_rfl)
    (of_decide_eq_true (by kernel_rfl)) (by unfold Func.isWrapper; first | (rw [if_pos (by decide +kernel)]; kernel_rfl) | (rw [if_neg (by decide +kernel)]; exact ⟨rfl, rfl⟩))
    (fun os started H enc _ => lifted os started H enc)
end Go.Proofs.Ytnhfeoniiadjfaa.tableBack
namespace Go.Proofs.Ytnhfeoniiadjfaa
theorem tableBack_holds : Rows.TableBackSaid := tableBack.over
#print axioms tableBack_holds
end Go.Proofs.Ytnhfeoniiadjfaa
