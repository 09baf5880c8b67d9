/- The walk of WindowShifts. -/
import Derived.Test.YthiiobhogkenhaaWinP
import Derived.Test.YthiiobhogkenhaaHarn
namespace Go.Proofs.Ythiiobhogkenhaa.windowShifts
open Go.RowKit Go.Proofs.Ythiiobhogkenhaa.K Go.Proofs.Ythiiobhogkenhaa.Win
set_option linter.unusedVariables false
def Law (w : World) (e : Ending) (w' : World) : Prop := e = .returned (.bool true) ∧ Below w.heap.size w w'

set_option maxRecDepth 100000 in
set_option maxHeartbeats 1000000 in
theorem walk (a0 : Nat) (b0 : a0 < 18446744073709551616) (z1 : Int) (l1 : -9223372036854775808 ≤ z1) (u1 : z1 ≤ 9223372036854775807) (A : Option Addr) (len cap : Nat) (xs : List Nat) (a3 : Nat) (b3 : a3 < 18446744073709551616) (w : World) (R : ReadsU w A len xs) :
    Calls Try.prog 9 #[.int .u64 (a0 : Int), .int .i64 z1, .slice A len cap, .int .u64 (a3 : Int)] w fun e w' => e = .returned (.bool true) ∧ Below w.heap.size w w' := by
  show Calls _ _ _ _ (Law w)
  by_cases hA : (18446744073709551615 : Int) - a3 < a0
  · clear R
    go_enter Try.func9, Try.ntmps9
    go_wp2_with fail
    refine (known_any w).mono ?_
    rintro e w1 ⟨rfl, hO1⟩
    go_wp2_with fail
    go_ret
    exact ⟨rfl, hO1.below (fun _ h => h.elim) (Nat.le_refl _)⟩
  have g5 : a0 + a3 < 18446744073709551616 := by omega
  replace hA : decide ((18446744073709551615 : Int) - a3 < a0) = false := decide_eq_false hA
  by_cases hm : mayB z1 = true
  · have H0 := Lib.hid hm
    obtain ⟨n, rfl, h1, h2, h3, h4⟩ := mayB_yes hm
    have HR := Lib.hid R
    have hmax := R.max
    clear hm h3 h4 R
    go_enter Try.func9, Try.ntmps9
    go_wp2_with fail
    refine (known_any w).mono ?_
    rintro e w1 ⟨rfl, hO1⟩
    go_wp2_with fail
    refine (win_new a0 n n _ rfl b0 H0.out).mono ?_
    rintro e w2 ⟨g, rb, rfl, hW2, hO2, hg, hr⟩
    have HS : Hid (StW w w2 g rb ⟨a0, n, []⟩) := StW.mk' hW2 hO1 hO2 hg hr
    clear hW2 hO1 hO2 hg hr
    go_wp2_with fail
    refine (win_new_int (a0 + a3) n _ n _ (by omega) rfl g5 H0.out).mono ?_
    rintro e w3 ⟨g2, rb2, rfl, hW3, hO3, hg, hr⟩
    have H3 : Hid (St2 w w3 g rb g2 rb2 ⟨a0, n, []⟩ (M.up ⟨a0, n, []⟩ a3)) := St2.mk' HS.out hW3 hO3 hg hr
    clear hW3 hO3 hg hr
    go_wp2_with fail
    go_loopg [12] 2000 (fun gk i wr => ∃ k : Nat, k ≤ len ∧ k ≤ 2000 ∧ gk = 2000 - k ∧ i = .int .i64 (k : Int) ∧ ∃ m, St2 w wr g rb g2 rb2 m (m.up a3))
    case atStart => exact ⟨0, by omega, by omega, rfl, rfl, _, H3.out⟩
    case round =>
      obtain ⟨k, hk, hk2, rfl, rfl, m, hS⟩ := hrel
      have HS2 := Lib.hid hS
      clear hS
      by_cases hlt1 : k < len
      · by_cases hlt2 : k < 2000
        · have hxc : xs.getD k 0 < 18446744073709551616 := HR.out.lt _ (getD_mem _ _ (by have := HR.out.len; omega))
          obtain ⟨ad, hA, hadl, hcell0⟩ := HR.out.at_ k hlt1
          subst hA
          have hcl : ∀ w2, Below w.heap.size w w2 → w2.cell? (ad.add k) = some (.int .u64 (xs.getD k 0 : Nat)) := fun w2 hb => (hb.cell (p := ad.add k) (by rw [block_add]; exact hadl)).trans hcell0
          have HC := Lib.hid hcl
          have hc1 := hcl _ HS2.out.a.below
          clear hcell0 hadl hcl
          generalize xs.getD k 0 = c at *
          by_cases hc : (18446744073709551615 : Int) - a3 < c
          · go_wp2_with fail
            go_roundg (2000 - (k + 1))
            case measure => omega
            case rel => exact ⟨k + 1, by omega, by omega, rfl, by go_num, m, HS2.out⟩
          · have hu := up_mark m a3 c
            have hu2 := up_takes m a3 c
            have HU := Lib.hid hu
            have HU2 := Lib.hid hu2
            clear hu hu2
            have t1 := Lib.hid (win_mark g rb m c _ HS2.out.a.win hxc)
            go_wp2_with fail
            refine t1.out.mono ?_
            rintro e w4 ⟨rfl, hW4, hO4⟩
            have H4 := Lib.hid (HS2.out.markA hW4 hO4)
            have hc2 := HC.out _ H4.out.a.below
            clear hW4 hO4 hc1
            go_wp2_with fail
            have t2 := fun x hx => win_mark_int g2 rb2 _ (c + a3) x _ H4.out.b.win hx (by omega)
            rw [HU2.out, HU.out] at t2
            refine (t2 _ (by omega)).mono ?_
            clear t2
            rintro e w5 ⟨rfl, hW5, hO5⟩
            have H5 := Lib.hid (H4.out.markB hW5 hO5)
            clear hW5 hO5
            have hself : (m.takes c != m.takes c) = false := by simp
            go_wp2_with fail
            go_roundg (2000 - (k + 1))
            case measure => omega
            case rel => exact ⟨k + 1, by omega, by omega, rfl, by go_num, _, H5.out⟩
        · have htop := HS2.out.a.win.top_lt
          have htop2 := HS2.out.b.win.top_lt
          have T1 := Lib.hid (win_top g rb m wr HS2.out.a.win)
          have T2 := Lib.hid (fun q => win_top g2 rb2 _ _ (HS2.out.b.win.drewN q))
          have hu := up_any m a3
          have hcs : (m.any = false) ∨ (m.any = true ∧ ((m.top : Int) + a3 == ((m.up a3).top : Nat)) = true ∧ m.top + a3 < 18446744073709551616) := by
            by_cases e : m.any = true
            · have := up_top m a3 e
              exact .inr ⟨e, beq_iff_eq.2 (by omega), by omega⟩
            · exact .inl (by simpa using e)
          have HU := Lib.hid hu
          have HCS := Lib.hid hcs
          clear hu hcs
          generalize (m.up a3).top = T at *
          rcases HCS.out with e1 | ⟨e1, e2, e3⟩
          all_goals
            have He1 := Lib.hid e1
            try have He2 := Lib.hid e2
            try have He3 := Lib.hid e3
            clear e1 HCS
            try clear e2 e3
            clear htop htop2 hA g5
            go_wp2_with fail
            have t1 := T1.out
            rw [He1.out] at t1
            refine t1.mono ?_
            clear t1
            rintro e w' ⟨q1, rfl, rfl⟩
            go_wp2_with fail
            have t2 := T2.out q1
            rw [HU.out, He1.out] at t2
            refine t2.mono ?_
            clear t2
            rintro e w' ⟨q2, rfl, rfl⟩
            try have e2 := He2.out
            try have e3 := He3.out
            go_wp2_with fail
            go_ret
            exact ⟨rfl, below_drewN HS2.out.a.below _⟩
      · have htop := HS2.out.a.win.top_lt
        have htop2 := HS2.out.b.win.top_lt
        have T1 := Lib.hid (win_top g rb m wr HS2.out.a.win)
        have T2 := Lib.hid (fun q => win_top g2 rb2 _ _ (HS2.out.b.win.drewN q))
        have hu := up_any m a3
        have hcs : (m.any = false) ∨ (m.any = true ∧ ((m.top : Int) + a3 == ((m.up a3).top : Nat)) = true ∧ m.top + a3 < 18446744073709551616) := by
          by_cases e : m.any = true
          · have := up_top m a3 e
            exact .inr ⟨e, beq_iff_eq.2 (by omega), by omega⟩
          · exact .inl (by simpa using e)
        have HU := Lib.hid hu
        have HCS := Lib.hid hcs
        clear hu hcs
        generalize (m.up a3).top = T at *
        rcases HCS.out with e1 | ⟨e1, e2, e3⟩
        all_goals
          have He1 := Lib.hid e1
          try have He2 := Lib.hid e2
          try have He3 := Lib.hid e3
          clear e1 HCS
          try clear e2 e3
          clear htop htop2 hA g5
          go_wp2_with fail
          have t1 := T1.out
          rw [He1.out] at t1
          refine t1.mono ?_
          clear t1
          rintro e w' ⟨q1, rfl, rfl⟩
          go_wp2_with fail
          have t2 := T2.out q1
          rw [HU.out, He1.out] at t2
          refine t2.mono ?_
          clear t2
          rintro e w' ⟨q2, rfl, rfl⟩
          try have e2 := He2.out
          try have e3 := He3.out
          go_wp2_with fail
          go_ret
          exact ⟨rfl, below_drewN HS2.out.a.below _⟩
  · have hm0 : mayB z1 = false := by simpa using hm
    have H0 := Lib.hid hm0
    clear hm
    rcases mayB_cases hm0 with h1 | ⟨h1, h2⟩ | ⟨h1, h2, h3⟩
    all_goals
      clear hm0
      go_enter Try.func9, Try.ntmps9
      go_wp2_with fail
      refine (known_any w).mono ?_
      rintro e w1 ⟨rfl, hO1⟩
      go_wp2_with fail
      refine (new_no a0 z1 _ b0 H0.out).mono ?_
      rintro e w' ⟨rfl, rfl⟩
      go_wp2_with fail
      refine (new_no_int (a0 + a3) _ z1 _ (by omega) g5 H0.out).mono ?_
      rintro e w' ⟨rfl, rfl⟩
      go_wp2
      go_ret
      exact ⟨rfl, hO1.below (fun _ h => h.elim) (Nat.le_refl _)⟩
end Go.Proofs.Ythiiobhogkenhaa.windowShifts
