/- The document's PutBoots. -/
import Derived.Test.YtgbjhlkjceonpaaBoots
import Derived.Test.YtgbjhlkjceonpaaNum
namespace Go.Proofs.Ytgbjhlkjceonpaa.Help
open Go.RowKit Go.Proofs.Ytgbjhlkjceonpaa.K
set_option linter.unusedVariables false

set_option maxRecDepth 100000 in
theorem refPutBoots_any (n : Int) (w : World) (hn : n ≤ 9223372036854775807) :
    Calls Try.prog 19 #[.int .i64 n] w (RowRet w (putBoots n).1 (putBoots n).2.1 (putBoots n).2.2) := by
  rcases putBoots_cases n with ⟨e1, e⟩ | ⟨e1, e2, e⟩ | ⟨m, rfl, e1, e⟩
  · rw [e]
    clear e
    go_enter Try.func19, Try.ntmps19
    go_wp2_with fail
    exact bodyPost_ret (v := .tuple #[.agg #[.slice none 0 0, .slice none 0 0], .int .i64 114]) (by simp [results, Try.results19, go_sem]) rfl ⟨_, _, rfl, Own.nil _ _, Own.nil _ _, by first | exact (Below.refl _ _).alloc (Nat.le_refl _) _ | exact ((((Below.refl _ _).alloc (Nat.le_refl _) _).setCell (by simp) _).setCell (by simp) _)⟩
  · rw [e]
    clear e
    go_enter Try.func19, Try.ntmps19
    go_wp2_with fail
    exact bodyPost_ret (v := .tuple #[.agg #[.slice none 0 0, .slice none 0 0], .int .i64 114]) (by simp [results, Try.results19, go_sem]) rfl ⟨_, _, rfl, Own.nil _ _, Own.nil _ _, by first | exact (Below.refl _ _).alloc (Nat.le_refl _) _ | exact ((((Below.refl _ _).alloc (Nat.le_refl _) _).setCell (by simp) _).setCell (by simp) _)⟩
  · rw [e]
    clear e
    have P := Lib.hid (fun w => number m 8 w (by omega) (by omega))
    go_enter Try.func19, Try.ntmps19
    go_wp2_with fail
    refine (P.out _).mono ?_
    rintro e w2 ⟨v2, rfl, ho, hb⟩
    obtain ⟨B, d, rfl, _⟩ := ho.bs
    have q0 := (blk_alloc (blk_new w (.cells #[Value.slice none 0 0, Value.slice none 0 0] 29)) (.cells #[Value.int IntKind.u8 66] 5))
    have q1 : Blk ((w.alloc (.cells #[Value.slice none 0 0, Value.slice none 0 0] 29)).alloc (.cells #[Value.int IntKind.u8 66] 5)) (w.alloc (.cells #[Value.slice none 0 0, Value.slice none 0 0] 29)).heap.size [66] := blk_new _ _
    have c0 := (hb.block _ (blk_lt q0)).trans q0
    have o1 := (q1.own (Nat.le_refl _) (by decide)).below hb
    have hz : (w.alloc (.cells #[Value.slice none 0 0, Value.slice none 0 0] 29)).heap.size = w.heap.size + 1 := by simp
    have hz2 : ((w.alloc (.cells #[Value.slice none 0 0, Value.slice none 0 0] 29)).alloc (.cells #[Value.int IntKind.u8 66] 5)).heap.size = w.heap.size + 2 := by simp
    rw [hz] at o1
    replace ho := ho.mono (b' := w.heap.size + 1) (by omega)
    have hbw : Below w.heap.size w w2 := (((Below.refl w.heap.size w).alloc (Nat.le_refl _) _).alloc (by omega) _).trans (hb.mono (by omega))
    have d0 := blk_cell c0 0
    have d1 := blk_cell c0 1
    have e0 := blk_free c0 0
    have e1 := blk_free c0 1
    generalize (be 8 m).length = dl at *
    have f := blk_set (blk_set c0 0 (.slice (some ⟨w.heap.size + 1, 0, none⟩) 1 1)) 1 (.slice B dl d)
    have f0 := Lib.hid ((blk_cell f 0).trans (b := some (Value.slice (some ⟨w.heap.size + 1, 0, none⟩) 1 1)) rfl)
    have f1 := Lib.hid ((blk_cell f 1).trans (b := some (Value.slice B dl d)) rfl)
    clear q0 q1 c0 hb hz hz2 f
    go_wp2
    exact bodyPost_ret (v := .tuple #[.agg #[.slice (some ⟨w.heap.size + 1, 0, none⟩) 1 1, .slice B dl d], .int .i64 0]) (by simp [results, Try.results19, go_sem, f0.out, f1.out]) rfl (row_done o1 ho hbw 0)
end Go.Proofs.Ytgbjhlkjceonpaa.Help
