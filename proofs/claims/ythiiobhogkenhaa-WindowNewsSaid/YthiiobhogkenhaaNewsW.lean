/- The walk of WindowNews. -/
import Derived.Test.YthiiobhogkenhaaWinC
namespace Go.Proofs.Ythiiobhogkenhaa.windowNews
open Go.RowKit Go.Proofs.Ythiiobhogkenhaa.K Go.Proofs.Ythiiobhogkenhaa.Win
set_option linter.unusedVariables false
def Law (w : World) (e : Ending) (w' : World) : Prop := e = .returned (.bool true) ∧ Below w.heap.size w w'
theorem walk (a0 : Nat) (b0 : a0 < 18446744073709551616) (z1 : Int) (l1 : -9223372036854775808 ≤ z1) (u1 : z1 ≤ 9223372036854775807) (w : World) :
    Calls Try.prog 4 #[.int .u64 (a0 : Int), .int .i64 z1] w fun e w' => e = .returned (.bool true) ∧ Below w.heap.size w w' := by
  show Calls _ _ _ _ (Law w)
  by_cases hm : mayB z1 = true
  · have H0 := Lib.hid hm
    obtain ⟨n, hn, h1, h2, h3, h4⟩ := mayB_yes hm
    have h5 : 64 ≤ z1 := by omega
    have h6 : z1 ≤ 1024 := by omega
    have HN := Lib.hid hn
    clear hm hn h1 h2 h3
    have t1 : Hid (M.takes ⟨a0, n, []⟩ a0 = true) := by simp [Hid, M.takes]
    go_enter Try.func4, Try.ntmps4
    go_wp2_with fail
    refine (known_any w).mono ?_
    rintro e w1 ⟨rfl, hO1⟩
    go_wp2_with fail
    refine (win_new a0 n z1 _ HN.out b0 H0.out).mono ?_
    rintro e w2 ⟨g, rb, rfl, hW2, hO2, hg, hr⟩
    have H2 := Lib.hid hW2
    clear hW2
    go_wp2_with fail
    refine (win_top g rb _ _ H2.out).mono ?_
    rintro e w' ⟨m1, rfl, rfl⟩
    have H3 := Lib.hid (WinM.drewN H2.out m1)
    go_wp2_with fail
    have t2 := win_takes g rb _ a0 _ H3.out b0
    rw [t1.out] at t2
    refine t2.mono ?_
    clear t2
    rintro e w' ⟨m2, rfl, rfl⟩
    have H4 := Lib.hid (WinM.drewN H2.out (m1 + m2))
    have t6 : M.top ⟨a0, n, []⟩ = 0 := rfl
    have t7 : M.any ⟨a0, n, []⟩ = false := rfl
    go_wp2_with fail
    refine (win_floor g rb _ _ H4.out).mono ?_
    rintro e w' ⟨rfl, rfl⟩
    go_wp2_with fail
    go_ret
    refine ⟨rfl, ?_⟩
    exact ((hO1.then_ hO2 (fun i hi => .inl hi)).drewN _).below (fun _ h => h.elim) (Nat.le_refl _)
  · have hm0 : mayB z1 = false := by simpa using hm
    have H0 := Lib.hid hm0
    clear hm
    rcases mayB_cases hm0 with h1 | ⟨h1, h2⟩ | ⟨h1, h2, h3⟩
    all_goals
      clear hm0
      go_enter Try.func4, Try.ntmps4
      go_wp2_with fail
      refine (known_any w).mono ?_
      rintro e w1 ⟨rfl, hO1⟩
      go_wp2_with fail
      refine (new_no a0 z1 _ b0 H0.out).mono ?_
      rintro e w' ⟨rfl, rfl⟩
      go_wp2_with fail
      go_ret
      exact ⟨rfl, hO1.below (fun _ h => h.elim) (Nat.le_refl _)⟩
end Go.Proofs.Ythiiobhogkenhaa.windowNews
