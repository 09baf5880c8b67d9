/- The walks of package window, the rest: New, Floor, Top. -/
import Derived.Test.YthiiobhogkenhaaWinW
namespace Go.Proofs.Ythiiobhogkenhaa.Win
open Go.RowKit Go.Proofs.Ythiiobhogkenhaa.K
set_option linter.unusedVariables false

/-- may a window be so wide? -/
def mayB (width : Int) : Bool := decide (64 ≤ width) && decide (width ≤ 1024) && decide (width % 64 = 0)

theorem madeCells_u64 (m : Nat) : madeCells #[Value.int .u64 0] m = u64s (List.replicate m 0) := by
  apply Array.ext_getElem?
  intro i
  by_cases hi : i < m
  · rw [u64s_get _ _ (by rw [List.length_replicate]; exact hi)]
    simp [madeCells, hi, Nat.mod_one]
  · rw [Array.getElem?_eq_none (by rw [size_madeCells]; omega), Array.getElem?_eq_none (by rw [u64s_size, List.length_replicate]; omega)]

theorem info_u64 : (Try.prog.info? 22).map (fun i => (i.zero, i.size, i.bytes)) = some (some (.int .u64 0), 1, 8) := by kernel_rfl

/-- what New answers where the width may be -/
def NewYes (w : World) (floor width : Nat) (e : Ending) (w' : World) : Prop :=
  ∃ g rb, e = .returned (.pointer (some ⟨g, 0, none⟩)) ∧ Win w' g rb (S.new floor width) ∧ Only w w' (fun _ => False) ∧ w.heap.size ≤ g ∧ w.heap.size ≤ rb

theorem new_yes (floor width : Nat) (w : World) (hf : floor < 18446744073709551616) (h1 : 64 ≤ width) (h2 : width ≤ 1024) (h3 : width % 64 = 0) :
    Calls Try.prog 15 #[.int .u64 (floor : Int), .int .i64 (width : Int)] w (NewYes w floor width) := by
  have hmk : ∀ W : World, (Instr.makeSlice 42 (.int .i64 ((width : Int) / 64)) (.int .i64 ((width : Int) / 64))).run Try.prog W = .ok (.slice (some ⟨W.heap.size, 0, none⟩) (width / 64) (width / 64)) (W.alloc (.cells (madeCells #[.int .u64 0] (width / 64)) 22)) := fun W => by
    have h := run_make_row' (P := Try.prog) 42 22 (.int .u64 0) 8 Try.underlying42 info_u64 rfl .i64 .i64 (width / 64) (by omega) (by omega) W
    simpa using h
  have g1 : (64 : Int) ≤ width := by omega
  have g2 : (width : Int) ≤ 1024 := by omega
  have g3 : ((width : Int) % 64 != 0) = false := by simp; omega
  have g4 : (width : Int) % 64 = 0 := by omega
  have hfin : NewYes w floor width (.returned (.pointer (some ⟨w.heap.size + 1, 0, none⟩))) ((w.alloc (.cells (madeCells #[.int .u64 0] (width / 64)) 22)).alloc (.cells #[.int .u64 (floor : Int), .int .u64 0, .bool false, .int .u64 (width : Int), .slice (some ⟨w.heap.size, 0, none⟩) (width / 64) (width / 64)] 53)) := by
    refine ⟨w.heap.size + 1, w.heap.size, rfl, ⟨?_, ?_, S.Ok.new hf h1 h2 h3⟩, ((Only.refl w _).alloc _).alloc _, by omega, by omega⟩
    · have := blk_new (w.alloc (.cells (madeCells #[.int .u64 0] (width / 64)) 22)) (.cells #[.int .u64 (floor : Int), .int .u64 0, .bool false, .int .u64 (width : Int), .slice (some ⟨w.heap.size, 0, none⟩) (width / 64) (width / 64)] 53)
      simpa [S.new] using this
    · have := blk_alloc (blk_new w (.cells (madeCells #[.int .u64 0] (width / 64)) 22)) (.cells #[.int .u64 (floor : Int), .int .u64 0, .bool false, .int .u64 (width : Int), .slice (some ⟨w.heap.size, 0, none⟩) (width / 64) (width / 64)] 53)
      rw [madeCells_u64] at this ⊢
      simpa [S.new] using this
  have HF := Lib.hid hfin
  clear hfin h1 h2 h3
  go_enter Try.func15, Try.ntmps15
  go_wp2_with fail
  go_ret
  exact HF.out
theorem new_no (floor : Nat) (width : Int) (w : World) (hf : floor < 18446744073709551616) (h : mayB width = false) :
    Calls Try.prog 15 #[.int .u64 (floor : Int), .int .i64 width] w fun e w' => e = .returned (.pointer none) ∧ w = w' := by
  by_cases h1 : width < 64
  · clear h
    go_enter Try.func15, Try.ntmps15
    go_wp2_with fail
    go_ret
    exact ⟨rfl, rfl⟩
  by_cases h2 : 1024 < width
  · clear h
    go_enter Try.func15, Try.ntmps15
    go_wp2_with fail
    go_ret
    exact ⟨rfl, rfl⟩
  have g0 : 64 ≤ width := by omega
  have g1 : width ≤ 1024 := by omega
  have g2 : (width % 64 != 0) = true := by simp [mayB, g0, g1] at h; simp; exact h
  have g3 : ¬ width % 64 = 0 := by simpa using g2
  clear h h1 h2
  go_enter Try.func15, Try.ntmps15
  go_wp2_with fail
  go_ret
  exact ⟨rfl, rfl⟩
theorem floor_any (g rb : Nat) (s : S) (w : World) (hW : Win w g rb s) :
    Calls Try.prog 18 #[.pointer (some ⟨g, 0, none⟩)] w fun e w' => e = .returned (.int .u64 (s.floor : Int)) ∧ w = w' := by
  have c0 := hW.c0
  clear hW
  go_enter Try.func18, Try.ntmps18
  go_wp2_with fail
  go_ret
  exact ⟨rfl, rfl⟩
theorem top_any (g rb : Nat) (s : S) (w : World) (hW : Win w g rb s) :
    Calls Try.prog 16 #[.pointer (some ⟨g, 0, none⟩)] w (Quiet (.tuple #[.int .u64 (s.top : Int), .bool s.any]) w) := by
  have c1 := hW.c1
  have c2 := hW.c2
  clear hW
  go_enter Try.func16, Try.ntmps16
  go_wp2_with fail
  go_quiet (fail)
  go_wp2_with fail
  go_ret2
  exact ⟨_, rfl, rfl⟩
end Go.Proofs.Ythiiobhogkenhaa.Win
