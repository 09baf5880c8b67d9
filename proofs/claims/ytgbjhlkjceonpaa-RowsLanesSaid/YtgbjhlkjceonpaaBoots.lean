/- The walks of PutBoots, the program's and the document's. -/
import Derived.Test.YtgbjhlkjceonpaaRget
import Derived.Test.YtgbjhlkjceonpaaStamp3
namespace Go.Proofs.Ytgbjhlkjceonpaa.Help
open Go.RowKit Go.Proofs.Ytgbjhlkjceonpaa.K
set_option linter.unusedVariables false

/-- a row and an error, in new memory -/
def RowRet (w : World) (k v : List UInt8) (code : Int) (e : Ending) (w' : World) : Prop :=
  ∃ v1 v2, e = .returned (.tuple #[.agg #[v1, v2], .int .i64 code]) ∧ Own w' w.heap.size v1 k ∧ Own w' w.heap.size v2 v ∧ Below w.heap.size w w'
def putBoots (n : Int) : List UInt8 × List UInt8 × Int := if n < 0 ∨ 4611686018427387904 < n then ([], [], 114) else ([66], be 8 n.toNat, 0)
theorem putBoots_cases (n : Int) : (n < 0 ∧ putBoots n = ([], [], 114)) ∨ (0 ≤ n ∧ 4611686018427387904 < n ∧ putBoots n = ([], [], 114)) ∨ (∃ m : Nat, n = m ∧ m ≤ 4611686018427387904 ∧ putBoots n = ([66], be 8 m, 0)) := by
  unfold putBoots
  by_cases h1 : n < 0
  · exact .inl ⟨h1, by rw [if_pos (.inl h1)]⟩
  by_cases h2 : 4611686018427387904 < n
  · exact .inr (.inl ⟨by omega, h2, by rw [if_pos (.inr h2)]⟩)
  · exact .inr (.inr ⟨n.toNat, by omega, by omega, by rw [if_neg (by omega)]⟩)
/-- the two cells of a result -/
theorem row_done {w w2 : World} {A B : Option Addr} {a b c d : Nat} {k v : List UInt8} (h1 : Own w2 (w.heap.size + 1) (.slice A a c) k) (h2 : Own w2 (w.heap.size + 1) (.slice B b d) v) (hb : Below w.heap.size w w2) (code : Int) :
    RowRet w k v code (.returned (.tuple #[.agg #[.slice A a c, .slice B b d], .int .i64 code])) ((w2.setCell ⟨w.heap.size, 0, none⟩ (.slice A a c)).setCell ⟨w.heap.size, 1, none⟩ (.slice B b d)) := by
  have ho : Only w2 ((w2.setCell ⟨w.heap.size, 0, none⟩ (.slice A a c)).setCell ⟨w.heap.size, 1, none⟩ (.slice B b d)) (fun k => k = w.heap.size) :=
    ((Only.refl w2 (fun k => k = w.heap.size)).setCell (p := ⟨w.heap.size, 0, none⟩) (.inl rfl) _).setCell (p := ⟨w.heap.size, 1, none⟩) (.inl rfl) _
  refine ⟨_, _, rfl, (h1.only ho (fun i hi e => ?_)).mono (by omega), (h2.only ho (fun i hi e => ?_)).mono (by omega), below_only hb ho (fun i hi => by rw [hi]; exact Nat.le_refl _)⟩
  · have := h1.base_le hi; omega
  · have := h2.base_le hi; omega

set_option maxRecDepth 100000 in
theorem putBoots_any (n : Int) (w : World) (hn : n ≤ 9223372036854775807) :
    Calls Try.prog 18 #[.int .i64 n] w (RowRet w (putBoots n).1 (putBoots n).2.1 (putBoots n).2.2) := by
  rcases putBoots_cases n with ⟨e1, e⟩ | ⟨e1, e2, e⟩ | ⟨m, rfl, e1, e⟩
  · rw [e]
    clear e
    go_enter Try.func18, Try.ntmps18
    go_wp2_with fail
    exact bodyPost_ret (v := .tuple #[.agg #[.slice none 0 0, .slice none 0 0], .int .i64 114]) (by simp [results, Try.results18, go_sem]) rfl ⟨_, _, rfl, Own.nil _ _, Own.nil _ _, by first | exact (Below.refl _ _).alloc (Nat.le_refl _) _ | exact ((((Below.refl _ _).alloc (Nat.le_refl _) _).setCell (by simp) _).setCell (by simp) _)⟩
  · rw [e]
    clear e
    go_enter Try.func18, Try.ntmps18
    go_wp2_with fail
    exact bodyPost_ret (v := .tuple #[.agg #[.slice none 0 0, .slice none 0 0], .int .i64 114]) (by simp [results, Try.results18, go_sem]) rfl ⟨_, _, rfl, Own.nil _ _, Own.nil _ _, by first | exact (Below.refl _ _).alloc (Nat.le_refl _) _ | exact ((((Below.refl _ _).alloc (Nat.le_refl _) _).setCell (by simp) _).setCell (by simp) _)⟩
  · rw [e]
    clear e
    have P := Lib.hid (fun w => Bits.put_uint64 none 0 [] m w (Bs.nil _ _ _) (by simp) (by omega))
    go_enter Try.func18, Try.ntmps18
    go_wp2_with fail
    refine (P.out _).mono ?_
    rintro e w2 ⟨v2, rfl, ho, hb⟩
    obtain ⟨B, d, rfl, _⟩ := ho.bs
    have q0 := (blk_alloc (blk_new w (.cells #[Value.slice none 0 0, Value.slice none 0 0] 29)) (.cells #[Value.int IntKind.u8 66] 5))
    have q1 : Blk ((w.alloc (.cells #[Value.slice none 0 0, Value.slice none 0 0] 29)).alloc (.cells #[Value.int IntKind.u8 66] 5)) (w.alloc (.cells #[Value.slice none 0 0, Value.slice none 0 0] 29)).heap.size [66] := blk_new _ _
    have c0 := (hb.block _ (blk_lt q0)).trans q0
    have o1 := (q1.own (Nat.le_refl _) (by decide)).below hb
    have hz : (w.alloc (.cells #[Value.slice none 0 0, Value.slice none 0 0] 29)).heap.size = w.heap.size + 1 := by simp
    have hz2 : ((w.alloc (.cells #[Value.slice none 0 0, Value.slice none 0 0] 29)).alloc (.cells #[Value.int IntKind.u8 66] 5)).heap.size = w.heap.size + 2 := by simp
    rw [hz] at o1
    replace ho := ho.mono (b' := w.heap.size + 1) (by omega)
    have hbw : Below w.heap.size w w2 := (((Below.refl w.heap.size w).alloc (Nat.le_refl _) _).alloc (by omega) _).trans (hb.mono (by omega))
    have d0 := blk_cell c0 0
    have d1 := blk_cell c0 1
    have e0 := blk_free c0 0
    have e1 := blk_free c0 1
    generalize ([] ++ be 8 m).length = dl at *
    have f := blk_set (blk_set c0 0 (.slice (some ⟨w.heap.size + 1, 0, none⟩) 1 1)) 1 (.slice B dl d)
    have f0 := Lib.hid ((blk_cell f 0).trans (b := some (Value.slice (some ⟨w.heap.size + 1, 0, none⟩) 1 1)) rfl)
    have f1 := Lib.hid ((blk_cell f 1).trans (b := some (Value.slice B dl d)) rfl)
    clear q0 q1 c0 hb hz hz2 f
    go_wp2
    exact bodyPost_ret (v := .tuple #[.agg #[.slice (some ⟨w.heap.size + 1, 0, none⟩) 1 1, .slice B dl d], .int .i64 0]) (by simp [results, Try.results18, go_sem, f0.out, f1.out]) rfl (row_done o1 ho hbw 0)
end Go.Proofs.Ytgbjhlkjceonpaa.Help
