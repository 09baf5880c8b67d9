/- The walk of WindowFar. -/
import Derived.Test.YthiiobhogkenhaaWinP
import Derived.Test.YthiiobhogkenhaaHarn
namespace Go.Proofs.Ythiiobhogkenhaa.windowFar
open Go.RowKit Go.Proofs.Ythiiobhogkenhaa.K Go.Proofs.Ythiiobhogkenhaa.Win
set_option linter.unusedVariables false
def Law (w : World) (e : Ending) (w' : World) : Prop := e = .returned (.bool true) ∧ Below w.heap.size w w'

set_option maxRecDepth 100000 in
set_option maxHeartbeats 1000000 in
theorem walk (a0 : Nat) (b0 : a0 < 18446744073709551616) (z1 : Int) (l1 : -9223372036854775808 ≤ z1) (u1 : z1 ≤ 9223372036854775807) (a2 : Nat) (b2 : a2 < 18446744073709551616) (a3 : Nat) (b3 : a3 < 18446744073709551616) (w : World) :
    Calls Try.prog 11 #[.int .u64 (a0 : Int), .int .i64 z1, .int .u64 (a2 : Int), .int .u64 (a3 : Int)] w fun e w' => e = .returned (.bool true) ∧ Below w.heap.size w w' := by
  show Calls _ _ _ _ (Law w)
  by_cases hm : mayB z1 = true
  · have H0 := Lib.hid hm
    obtain ⟨n, rfl, h1, h2, h3, h4⟩ := mayB_yes hm
    clear hm h3 h4
    by_cases hA : a2 < a0 ∨ 18446744073709551615 - a2 < a3 ∨ a3 = 0
    · have hA2 : a2 < a0 ∨ (a0 ≤ a2 ∧ (18446744073709551615 : Int) - a2 < a3) ∨ (a0 ≤ a2 ∧ ¬ (18446744073709551615 : Int) - a2 < a3 ∧ ((a3 : Int) == 0) = true) := by
        by_cases e1 : a2 < a0
        · exact .inl e1
        by_cases e2 : (18446744073709551615 : Int) - a2 < a3
        · exact .inr (.inl ⟨by omega, e2⟩)
        · exact .inr (.inr ⟨by omega, e2, beq_iff_eq.2 (by omega)⟩)
      clear hA
      rcases hA2 with e1 | ⟨e1, e2⟩ | ⟨e1, e2, e3⟩
      all_goals
        go_enter Try.func11, Try.ntmps11
        go_wp2_with fail
        refine (known_any w).mono ?_
        rintro e w1 ⟨rfl, hO1⟩
        go_wp2_with fail
        refine (win_new a0 n n _ rfl b0 H0.out).mono ?_
        rintro e w2 ⟨g, rb, rfl, hW2, hO2, hg, hr⟩
        have HS : Hid (StW w w2 g rb ⟨a0, n, []⟩) := StW.mk' hW2 hO1 hO2 hg hr
        clear hW2 hO1 hO2 hg hr
        go_wp2_with fail
        go_ret
        exact ⟨rfl, HS.out.below⟩
    · have g1 : a0 ≤ a2 := by omega
      have g2 : ¬ (18446744073709551615 : Int) - a2 < a3 := by omega
      have g3 : ((a3 : Int) == 0) = false := beq_eq_false_iff_ne.2 (by omega)
      have g4 : 0 < a3 := by omega
      have g5 : a2 + a3 < 18446744073709551616 := by omega
      clear hA
      have e1 := far_first (n := n) g1
      have e2 := far_second (n := n) (T := a2 + a3) g1 (by omega)
      have E1 := Lib.hid e1
      have E2 := Lib.hid e2
      clear e1 e2
      go_enter Try.func11, Try.ntmps11
      go_wp2_with fail
      refine (known_any w).mono ?_
      rintro e w1 ⟨rfl, hO1⟩
      go_wp2_with fail
      refine (win_new a0 n n _ rfl b0 H0.out).mono ?_
      rintro e w2 ⟨g, rb, rfl, hW2, hO2, hg, hr⟩
      have HS : Hid (StW w w2 g rb ⟨a0, n, []⟩) := StW.mk' hW2 hO1 hO2 hg hr
      clear hW2 hO1 hO2 hg hr
      go_wp2_with fail
      have t1 := win_mark g rb _ a2 _ HS.out.win b2
      rw [E1.out, mark_yes E1.out] at t1
      refine t1.mono ?_
      clear t1
      rintro e w3 ⟨rfl, hW3, hO3⟩
      have H3 := Lib.hid (HS.out.mark hW3 hO3)
      clear hW3 hO3
      go_wp2_with fail
      have t1 := fun x hx => win_mark_int g rb _ (a2 + a3) x _ H3.out.win hx g5
      simp only [List.nil_append] at t1
      rw [E2.out, mark_yes E2.out] at t1
      refine (t1 _ (by omega)).mono ?_
      clear t1
      rintro e w4 ⟨rfl, hW4, hO4⟩
      have H4 := Lib.hid (H3.out.mark hW4 hO4)
      clear hW4 hO4
      go_wp2_with fail
      go_loopg [13] (2 * n) (fun gk i wr => ∃ d : Nat, 1 ≤ d ∧ d ≤ 2 * n + 1 ∧ gk = 2 * n + 1 - d ∧ i = .int .i64 (d : Int) ∧ ∃ m, StW w wr g rb m ∧ FarI a0 n a2 (a2 + a3) d m)
      case atStart => exact ⟨1, by omega, by omega, by omega, rfl, _, H4.out, far_start⟩
      case round =>
        obtain ⟨d, hd, hd2, rfl, rfl, m, hS, hF⟩ := hrel
        have HS2 := Lib.hid hS
        have HF := Lib.hid hF
        clear hS hF
        by_cases hd3 : d ≤ 2 * n
        · by_cases hbr : a2 + a3 < d
          · have hbr2 : (a2 : Int) + a3 < d := by omega
            go_wp2_with fail
            go_ret
            exact ⟨rfl, HS2.out.below⟩
          · have hbr2 : ¬ (a2 : Int) + a3 < d := by omega
            have ht := far_takes HF.out hd (by omega) (by omega)
            have hst := far_step HF.out hd (by omega)
            have HT := Lib.hid ht
            have HST := Lib.hid hst
            have hcs : ((a0 : Int) ≤ a2 + a3 - d ∧ (((a2 : Int) + a3 - d != a2) = true) ∧ (decide (d < n) = true) ∧ m.takes (a2 + a3 - d) = true) ∨ ((a0 : Int) ≤ a2 + a3 - d ∧ (((a2 : Int) + a3 - d != a2) = true) ∧ (decide (d < n) = false) ∧ m.takes (a2 + a3 - d) = false) ∨
                ((a0 : Int) ≤ a2 + a3 - d ∧ (((a2 : Int) + a3 - d != a2) = false) ∧ True ∧ m.takes (a2 + a3 - d) = false) ∨ (¬ (a0 : Int) ≤ a2 + a3 - d ∧ True ∧ True ∧ m.takes (a2 + a3 - d) = false) := by
              rw [ht]
              by_cases e1 : (a0 : Int) ≤ a2 + a3 - d
              · have e1' : decide (a0 ≤ a2 + a3 - d) = true := decide_eq_true (by omega)
                by_cases e2 : d = a3
                · exact .inr (.inr (.inl ⟨e1, by rw [bne_eq_false_iff_eq]; omega, trivial, by simp; omega⟩))
                · have e2' : decide (a2 + a3 - d ≠ a2) = true := decide_eq_true (by omega)
                  by_cases e3 : d < n
                  · exact .inl ⟨e1, by rw [bne_iff_ne]; omega, decide_eq_true (by omega), by rw [e1', e2', decide_eq_true e3]; rfl⟩
                  · exact .inr (.inl ⟨e1, by rw [bne_iff_ne]; omega, decide_eq_false (by omega), by rw [e1', e2', decide_eq_false e3]; rfl⟩)
              · exact .inr (.inr (.inr ⟨e1, trivial, trivial, by rw [decide_eq_false (show ¬ a0 ≤ a2 + a3 - d by omega)]; rfl⟩))
            clear ht hst
            have T1 := Lib.hid (fun x hx => win_mark_int g rb m (a2 + a3 - d) x _ HS2.out.win hx (by omega))
            have HCS := Lib.hid hcs
            clear hcs
            rcases HCS.out with ⟨e1, e2, e3, eT⟩ | ⟨e1, e2, e3, eT⟩ | ⟨e1, e2, e3, eT⟩ | ⟨e1, e2, e3, eT⟩
            all_goals
              clear HCS
              have HeT := Lib.hid eT
              clear eT
              have e4 : (d : Int) ≤ 2 * n := by omega
              go_wp2_with fail
              have t1 := T1.out
              rw [HeT.out] at t1
              refine (t1 _ (by omega)).mono ?_
              clear t1
              rintro e w5 ⟨rfl, hW5, hO5⟩
              have H5 := Lib.hid (HS2.out.mark hW5 hO5)
              clear hW5 hO5
              go_wp2_with fail
              go_roundg (2 * n + 1 - (d + 1))
              case measure => omega
              case rel => exact ⟨d + 1, by omega, by omega, rfl, by go_num, _, H5.out, HST.out⟩
        · have e4 : ¬ (d : Int) ≤ 2 * n := by omega
          go_wp2_with fail
          go_ret
          exact ⟨rfl, HS2.out.below⟩
  · have hm0 : mayB z1 = false := by simpa using hm
    have H0 := Lib.hid hm0
    clear hm
    rcases mayB_cases hm0 with h1 | ⟨h1, h2⟩ | ⟨h1, h2, h3⟩
    all_goals
      clear hm0
      go_enter Try.func11, Try.ntmps11
      go_wp2_with fail
      refine (known_any w).mono ?_
      rintro e w1 ⟨rfl, hO1⟩
      go_wp2_with fail
      refine (new_no a0 z1 _ b0 H0.out).mono ?_
      rintro e w' ⟨rfl, rfl⟩
      go_wp2
      go_ret
      exact ⟨rfl, hO1.below (fun _ h => h.elim) (Nat.le_refl _)⟩
end Go.Proofs.Ythiiobhogkenhaa.windowFar
