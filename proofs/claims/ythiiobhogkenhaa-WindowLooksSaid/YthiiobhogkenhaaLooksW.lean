/- The walk of WindowLooks. -/
import Derived.Test.YthiiobhogkenhaaWinP
import Derived.Test.YthiiobhogkenhaaHarn
namespace Go.Proofs.Ythiiobhogkenhaa.windowLooks
open Go.RowKit Go.Proofs.Ythiiobhogkenhaa.K Go.Proofs.Ythiiobhogkenhaa.Win
set_option linter.unusedVariables false
def Law (w : World) (e : Ending) (w' : World) : Prop := e = .returned (.bool true) ∧ Below w.heap.size w w'

set_option maxRecDepth 100000 in
set_option maxHeartbeats 1000000 in
theorem walk (a0 : Nat) (b0 : a0 < 18446744073709551616) (z1 : Int) (l1 : -9223372036854775808 ≤ z1) (u1 : z1 ≤ 9223372036854775807) (A : Option Addr) (len cap : Nat) (xs : List Nat) (A3 : Option Addr) (len3 cap3 : Nat) (ys : List Nat) (w : World) (R : ReadsU w A len xs) (R3 : ReadsU w A3 len3 ys) :
    Calls Try.prog 10 #[.int .u64 (a0 : Int), .int .i64 z1, .slice A len cap, .slice A3 len3 cap3] w fun e w' => e = .returned (.bool true) ∧ Below w.heap.size w w' := by
  show Calls _ _ _ _ (Law w)
  by_cases hm : mayB z1 = true
  · have H0 := Lib.hid hm
    obtain ⟨n, rfl, h1, h2, h3, h4⟩ := mayB_yes hm
    have HR := Lib.hid R
    have HR3 := Lib.hid R3
    have hmax := R.max
    have hmax3 := R3.max
    clear hm h3 h4 R R3
    go_enter Try.func10, Try.ntmps10
    go_wp2_with fail
    refine (known_any w).mono ?_
    rintro e w1 ⟨rfl, hO1⟩
    go_wp2_with fail
    refine (win_new a0 n n _ rfl b0 H0.out).mono ?_
    rintro e w2 ⟨g, rb, rfl, hW2, hO2, hg, hr⟩
    have HS : Hid (StW w w2 g rb ⟨a0, n, []⟩) := StW.mk' hW2 hO1 hO2 hg hr
    clear hW2 hO1 hO2 hg hr
    go_wp2_with fail
    refine (win_new a0 n n _ rfl b0 H0.out).mono ?_
    rintro e w3 ⟨g2, rb2, rfl, hW3, hO3, hg, hr⟩
    have H3 : Hid (St2 w w3 g rb g2 rb2 ⟨a0, n, []⟩ ⟨a0, n, []⟩) := St2.mk' HS.out hW3 hO3 hg hr
    clear hW3 hO3 hg hr
    go_wp2_with fail
    go_loopg [11] 2000 (fun gk i wr => ∃ k : Nat, k ≤ len ∧ k ≤ 2000 ∧ gk = 2000 - k ∧ i = .int .i64 (k : Int) ∧ ∃ m, St2 w wr g rb g2 rb2 m m)
    case atStart => exact ⟨0, by omega, by omega, rfl, rfl, _, H3.out⟩
    case round =>
      obtain ⟨k, hk, hk2, rfl, rfl, m, hS⟩ := hrel
      have HS2 := Lib.hid hS
      clear hS
      by_cases hlt1 : k < len
      · by_cases hlt2 : k < 2000
        · have hxc : xs.getD k 0 < 18446744073709551616 := HR.out.lt _ (getD_mem _ _ (by have := HR.out.len; omega))
          obtain ⟨ad, hA, hadl, hcell0⟩ := HR.out.at_ k hlt1
          subst hA
          have hcl : ∀ w2, Below w.heap.size w w2 → w2.cell? (ad.add k) = some (.int .u64 (xs.getD k 0 : Nat)) := fun w2 hb => (hb.cell (p := ad.add k) (by rw [block_add]; exact hadl)).trans hcell0
          have HC := Lib.hid hcl
          have hc1 := hcl _ HS2.out.a.below
          clear hcell0 hadl hcl
          generalize xs.getD k 0 = c at *
          have hlt3 : (k : Int) < 2000 := by omega
          go_wp2_with fail
          go_loopg [12] 20 (fun gk i wi => ∃ j : Nat, j ≤ len3 ∧ j ≤ 20 ∧ gk = 20 - j ∧ i = .int .i64 (j : Int) ∧ ∃ q, wi = wr.drewN q)
          case atStart => exact ⟨0, by omega, by omega, rfl, rfl, 0, rfl⟩
          case round =>
            obtain ⟨j, hj, hj2, rfl, rfl, q, rfl⟩ := hrel
            by_cases hj1 : j < len3
            · by_cases hj3 : j < 20
              · have hyc : ys.getD j 0 < 18446744073709551616 := HR3.out.lt _ (getD_mem _ _ (by have := HR3.out.len; omega))
                obtain ⟨ad3, hA3, hadl3, hcell3⟩ := HR3.out.at_ j hj1
                subst hA3
                have hcl3 : wr.cell? (ad3.add j) = some (.int .u64 (ys.getD j 0 : Nat)) := (HS2.out.a.below.cell (p := ad3.add j) (by rw [block_add]; exact hadl3)).trans hcell3
                clear hcell3 hadl3
                generalize ys.getD j 0 = y at *
                go_wp2_with fail
                refine (win_takes g2 rb2 m y _ (HS2.out.b.win.drewN q) hyc).mono ?_
                rintro e w' ⟨q1, rfl, rfl⟩
                go_wp2_with fail
                refine (win_top g2 rb2 m _ (HS2.out.b.win.drewN (q + q1))).mono ?_
                rintro e w' ⟨q2, rfl, rfl⟩
                go_wp2_with fail
                refine (win_floor g2 rb2 m _ (HS2.out.b.win.drewN (q + q1 + q2))).mono ?_
                rintro e w' ⟨rfl, rfl⟩
                go_wp2_with fail
                go_roundg (20 - (j + 1))
                case measure => omega
                case rel => exact ⟨j + 1, by omega, by omega, rfl, by go_num, _, rfl⟩
              · have t1 := Lib.hid (win_mark g rb m c _ (HS2.out.a.win.drewN q) hxc)
                go_wp2_with fail
                refine t1.out.mono ?_
                rintro e w4 ⟨rfl, hW4, hO4⟩
                have H4 := Lib.hid ((HS2.out.drewN q).markA hW4 hO4)
                have hc2 := HC.out _ H4.out.a.below
                clear hW4 hO4 hc1 t1
                go_wp2_with fail
                refine (win_mark g2 rb2 m c _ H4.out.b.win hxc).mono ?_
                rintro e w5 ⟨rfl, hW5, hO5⟩
                have H5 := Lib.hid (H4.out.markB hW5 hO5)
                clear hW5 hO5
                go_wp2_with fail
                refine (win_top g rb _ _ H5.out.a.win).mono ?_
                rintro e w' ⟨q1, rfl, rfl⟩
                go_wp2_with fail
                refine (win_top g2 rb2 _ _ (H5.out.b.win.drewN q1)).mono ?_
                rintro e w' ⟨q2, rfl, rfl⟩
                have e1 : (m.takes c != m.takes c) = false := by simp
                have e2 : ((m.mark c).any != (m.mark c).any) = false := by simp
                go_wp2_with fail
                go_roundg (2000 - (k + 1))
                case measure => omega
                case rel => exact ⟨k + 1, by omega, by omega, rfl, by go_num, _, H5.out.drewN _⟩
            · have t1 := Lib.hid (win_mark g rb m c _ (HS2.out.a.win.drewN q) hxc)
              go_wp2_with fail
              refine t1.out.mono ?_
              rintro e w4 ⟨rfl, hW4, hO4⟩
              have H4 := Lib.hid ((HS2.out.drewN q).markA hW4 hO4)
              have hc2 := HC.out _ H4.out.a.below
              clear hW4 hO4 hc1 t1
              go_wp2_with fail
              refine (win_mark g2 rb2 m c _ H4.out.b.win hxc).mono ?_
              rintro e w5 ⟨rfl, hW5, hO5⟩
              have H5 := Lib.hid (H4.out.markB hW5 hO5)
              clear hW5 hO5
              go_wp2_with fail
              refine (win_top g rb _ _ H5.out.a.win).mono ?_
              rintro e w' ⟨q1, rfl, rfl⟩
              go_wp2_with fail
              refine (win_top g2 rb2 _ _ (H5.out.b.win.drewN q1)).mono ?_
              rintro e w' ⟨q2, rfl, rfl⟩
              have e1 : (m.takes c != m.takes c) = false := by simp
              have e2 : ((m.mark c).any != (m.mark c).any) = false := by simp
              go_wp2_with fail
              go_roundg (2000 - (k + 1))
              case measure => omega
              case rel => exact ⟨k + 1, by omega, by omega, rfl, by go_num, _, H5.out.drewN _⟩
        · go_wp2_with fail
          go_loopg [19] 2000 (fun gk i wi => ∃ j : Nat, j ≤ len3 ∧ j ≤ 2000 ∧ gk = 2000 - j ∧ i = .int .i64 (j : Int) ∧ ∃ q, wi = wr.drewN q)
          case atStart => exact ⟨0, by omega, by omega, rfl, rfl, 0, rfl⟩
          case round =>
            obtain ⟨j, hj, hj2, rfl, rfl, q, rfl⟩ := hrel
            by_cases hj1 : j < len3
            · by_cases hj3 : j < 2000
              · have hyc : ys.getD j 0 < 18446744073709551616 := HR3.out.lt _ (getD_mem _ _ (by have := HR3.out.len; omega))
                obtain ⟨ad3, hA3, hadl3, hcell3⟩ := HR3.out.at_ j hj1
                subst hA3
                have hcl3 : wr.cell? (ad3.add j) = some (.int .u64 (ys.getD j 0 : Nat)) := (HS2.out.a.below.cell (p := ad3.add j) (by rw [block_add]; exact hadl3)).trans hcell3
                clear hcell3 hadl3
                generalize ys.getD j 0 = y at *
                go_wp2_with fail
                refine (win_takes g rb m y _ (HS2.out.a.win.drewN q) hyc).mono ?_
                rintro e w' ⟨q1, rfl, rfl⟩
                go_wp2_with fail
                refine (win_takes g2 rb2 m y _ (HS2.out.b.win.drewN (q + q1)) hyc).mono ?_
                rintro e w' ⟨q2, rfl, rfl⟩
                have e1 : (m.takes y != m.takes y) = false := by simp
                go_wp2_with fail
                go_roundg (2000 - (j + 1))
                case measure => omega
                case rel => exact ⟨j + 1, by omega, by omega, rfl, by go_num, _, rfl⟩
              · go_wp2_with fail
                go_ret
                exact ⟨rfl, below_drewN HS2.out.a.below q⟩
            · go_wp2_with fail
              go_ret
              exact ⟨rfl, below_drewN HS2.out.a.below q⟩
      · go_wp2_with fail
        go_loopg [19] 2000 (fun gk i wi => ∃ j : Nat, j ≤ len3 ∧ j ≤ 2000 ∧ gk = 2000 - j ∧ i = .int .i64 (j : Int) ∧ ∃ q, wi = wr.drewN q)
        case atStart => exact ⟨0, by omega, by omega, rfl, rfl, 0, rfl⟩
        case round =>
          obtain ⟨j, hj, hj2, rfl, rfl, q, rfl⟩ := hrel
          by_cases hj1 : j < len3
          · by_cases hj3 : j < 2000
            · have hyc : ys.getD j 0 < 18446744073709551616 := HR3.out.lt _ (getD_mem _ _ (by have := HR3.out.len; omega))
              obtain ⟨ad3, hA3, hadl3, hcell3⟩ := HR3.out.at_ j hj1
              subst hA3
              have hcl3 : wr.cell? (ad3.add j) = some (.int .u64 (ys.getD j 0 : Nat)) := (HS2.out.a.below.cell (p := ad3.add j) (by rw [block_add]; exact hadl3)).trans hcell3
              clear hcell3 hadl3
              generalize ys.getD j 0 = y at *
              go_wp2_with fail
              refine (win_takes g rb m y _ (HS2.out.a.win.drewN q) hyc).mono ?_
              rintro e w' ⟨q1, rfl, rfl⟩
              go_wp2_with fail
              refine (win_takes g2 rb2 m y _ (HS2.out.b.win.drewN (q + q1)) hyc).mono ?_
              rintro e w' ⟨q2, rfl, rfl⟩
              have e1 : (m.takes y != m.takes y) = false := by simp
              go_wp2_with fail
              go_roundg (2000 - (j + 1))
              case measure => omega
              case rel => exact ⟨j + 1, by omega, by omega, rfl, by go_num, _, rfl⟩
            · go_wp2_with fail
              go_ret
              exact ⟨rfl, below_drewN HS2.out.a.below q⟩
          · go_wp2_with fail
            go_ret
            exact ⟨rfl, below_drewN HS2.out.a.below q⟩
  · have hm0 : mayB z1 = false := by simpa using hm
    have H0 := Lib.hid hm0
    clear hm
    rcases mayB_cases hm0 with h1 | ⟨h1, h2⟩ | ⟨h1, h2, h3⟩
    all_goals
      clear hm0
      go_enter Try.func10, Try.ntmps10
      go_wp2_with fail
      refine (known_any w).mono ?_
      rintro e w1 ⟨rfl, hO1⟩
      go_wp2_with fail
      refine (new_no a0 z1 _ b0 H0.out).mono ?_
      rintro e w' ⟨rfl, rfl⟩
      go_wp2_with fail
      refine (new_no a0 z1 _ b0 H0.out).mono ?_
      rintro e w' ⟨rfl, rfl⟩
      go_wp2
      go_ret
      exact ⟨rfl, hO1.below (fun _ h => h.elim) (Nat.le_refl _)⟩
end Go.Proofs.Ythiiobhogkenhaa.windowLooks
