/- The walks of the document's laneOK and PutLane. -/
import Derived.Test.YtgbjhlkjceonpaaLanW
namespace Go.Proofs.Ytgbjhlkjceonpaa.Help
open Go.RowKit Go.Proofs.Ytgbjhlkjceonpaa.K
set_option linter.unusedVariables false

def laneOkB (d : LaneD) : Bool := decide (laneOk d)
/-- the tests of laneOK, one after another -/
theorem laneOk_cases (d : LaneD) : ∃ s : Bool, stV d.sec d.nano = s ∧ (
    (((d.key.length : Int) == 32) = false ∧ laneOkB d = false) ∨ (((d.key.length : Int) == 32) = true ∧ (d.side == 0) = false ∧ (d.side == 1) = false ∧ laneOkB d = false) ∨
    (((d.key.length : Int) == 32) = true ∧ ((d.side == 0) = true ∨ ((d.side == 0) = false ∧ (d.side == 1) = true)) ∧ (
      (s = false ∧ laneOkB d = false) ∨ (s = true ∧ decide (1 ≤ d.cur) = false ∧ laneOkB d = false) ∨ (s = true ∧ decide (1 ≤ d.cur) = true ∧ decide (d.cur ≤ 2147483647) = false ∧ laneOkB d = false) ∨
      (s = true ∧ decide (1 ≤ d.cur) = true ∧ decide (d.cur ≤ 2147483647) = true ∧ decide (0 ≤ d.next) = false ∧ laneOkB d = false) ∨
      (s = true ∧ decide (1 ≤ d.cur) = true ∧ decide (d.cur ≤ 2147483647) = true ∧ decide (0 ≤ d.next) = true ∧ decide (d.next ≤ 2147483647) = laneOkB d)))) := by
  refine ⟨_, rfl, ?_⟩
  by_cases h1 : d.key.length = 32
  · have e1 : ((d.key.length : Int) == 32) = true := by rw [beq_iff_eq]; omega
    by_cases h2 : d.side = 0 ∨ d.side = 1
    · refine .inr (.inr ⟨e1, ?_, ?_⟩)
      · rcases h2 with h2 | h2
        · exact .inl (by rw [h2]; rfl)
        · exact .inr ⟨by rw [h2]; rfl, by rw [h2]; rfl⟩
      · cases hs : stV d.sec d.nano
        · exact .inl ⟨rfl, decide_eq_false (fun h => by have := h.2.2.2.2.2.2; rw [hs] at this; cases this)⟩
        · by_cases h3 : 1 ≤ d.cur
          · by_cases h4 : d.cur ≤ 2147483647
            · by_cases h5 : 0 ≤ d.next
              · refine .inr (.inr (.inr (.inr ⟨rfl, decide_eq_true h3, decide_eq_true h4, decide_eq_true h5, ?_⟩)))
                unfold laneOkB
                by_cases h6 : d.next ≤ 2147483647
                · rw [decide_eq_true h6, decide_eq_true ⟨h1, h2, h3, h4, h5, h6, hs⟩]
                · rw [decide_eq_false h6, decide_eq_false (fun h => h6 h.2.2.2.2.2.1)]
              · exact .inr (.inr (.inr (.inl ⟨rfl, decide_eq_true h3, decide_eq_true h4, decide_eq_false h5, decide_eq_false (fun h => h5 h.2.2.2.2.1)⟩)))
            · exact .inr (.inr (.inl ⟨rfl, decide_eq_true h3, decide_eq_false h4, decide_eq_false (fun h => h4 h.2.2.2.1)⟩))
          · exact .inr (.inl ⟨rfl, decide_eq_false h3, decide_eq_false (fun h => h3 h.2.2.1)⟩)
    · exact .inr (.inl ⟨e1, by rw [beq_eq_false_iff_ne]; exact fun e => h2 (.inl e), by rw [beq_eq_false_iff_ne]; exact fun e => h2 (.inr e), decide_eq_false (fun h => h2 h.2.1)⟩)
  · exact .inl ⟨by rw [beq_eq_false_iff_ne]; omega, decide_eq_false (fun h => h1 h.1)⟩

set_option maxRecDepth 100000 in
set_option maxHeartbeats 1000000 in
theorem refLaneOK (A : Option Addr) (c : Nat) (d : LaneD) (w : World) :
    Calls Try.prog 39 #[laneV A c d] w (Pure w (.bool (laneOkB d))) := by
  obtain ⟨s, hs, hcs⟩ := laneOk_cases d
  generalize hr : laneOkB d = r at *
  obtain ⟨key, side, cur, next, sc, ceil, sec, nano⟩ := d
  unfold laneV
  dsimp only at *
  have V := Lib.hid (fun w => refValid sec nano w)
  have H0 := Lib.hid (fun cs => Box.start 27 w cs)
  rw [hs] at V
  clear hs hr
  generalize key.length = n at *
  rcases hcs with ⟨q1, rfl⟩ | ⟨q1, q2, q3, rfl⟩ | ⟨q1, q2, h⟩
  · cases s
    all_goals
      go_enter Try.func39, Try.ntmps39
      go_wp2_with fail
      refine (V.out _).mono ?_
      rintro e w1 ⟨rfl, hb1⟩
      have h1 := (H0.out _).step hb1
      have a0 : w1.cell? ⟨w.heap.size, 0, none⟩ = some (.slice A n c) := h1.cell 0
      have HB := Lib.hid h1.below
      clear h1 hb1
      go_wp2_with fail
      go_ret
      exact ⟨rfl, HB.out⟩
  · cases s
    all_goals
      go_enter Try.func39, Try.ntmps39
      go_wp2_with fail
      refine (V.out _).mono ?_
      rintro e w1 ⟨rfl, hb1⟩
      have h1 := (H0.out _).step hb1
      have a0 : w1.cell? ⟨w.heap.size, 0, none⟩ = some (.slice A n c) := h1.cell 0
      have a1 : w1.cell? ⟨w.heap.size, 1, none⟩ = some (.int .i64 side) := h1.cell 1
      have HB := Lib.hid h1.below
      clear h1 hb1
      go_wp2_with fail
      go_ret
      exact ⟨rfl, HB.out⟩
  · rcases h with ⟨rfl, rfl⟩ | ⟨rfl, q3, rfl⟩ | ⟨rfl, q3, q4, rfl⟩ | ⟨rfl, q3, q4, q5, rfl⟩ | ⟨rfl, q3, q4, q5, q6⟩
    all_goals
      rcases q2 with q2 | ⟨q2, q2'⟩
      all_goals
        go_enter Try.func39, Try.ntmps39
        go_wp2_with fail
        refine (V.out _).mono ?_
        rintro e w1 ⟨rfl, hb1⟩
        have h1 := (H0.out _).step hb1
        have a0 : w1.cell? ⟨w.heap.size, 0, none⟩ = some (.slice A n c) := h1.cell 0
        have a1 : w1.cell? ⟨w.heap.size, 1, none⟩ = some (.int .i64 side) := h1.cell 1
        have a2 : w1.cell? ⟨w.heap.size, 2, none⟩ = some (.int .i64 cur) := h1.cell 2
        have a3 : w1.cell? ⟨w.heap.size, 3, none⟩ = some (.int .i64 next) := h1.cell 3
        have HB := Lib.hid h1.below
        clear h1 hb1
        go_wp2_with fail
        go_ret
        exact ⟨by first | rfl | (rw [← q6]; rfl), HB.out⟩
end Go.Proofs.Ytgbjhlkjceonpaa.Help
