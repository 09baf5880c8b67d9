/- The walk of WindowReach. -/
import Derived.Test.YthiiobhogkenhaaWinP
import Derived.Test.YthiiobhogkenhaaHarn
namespace Go.Proofs.Ythiiobhogkenhaa.windowReach
open Go.RowKit Go.Proofs.Ythiiobhogkenhaa.K Go.Proofs.Ythiiobhogkenhaa.Win
set_option linter.unusedVariables false
def Law (w : World) (e : Ending) (w' : World) : Prop := e = .returned (.bool true) ∧ Below w.heap.size w w'

set_option maxRecDepth 100000 in
set_option maxHeartbeats 1000000 in
theorem walk (a0 : Nat) (b0 : a0 < 18446744073709551616) (z1 : Int) (l1 : -9223372036854775808 ≤ z1) (u1 : z1 ≤ 9223372036854775807) (A : Option Addr) (len cap : Nat) (xs : List Nat) (a3 : Nat) (b3 : a3 < 18446744073709551616) (w : World) (R : ReadsU w A len xs) :
    Calls Try.prog 7 #[.int .u64 (a0 : Int), .int .i64 z1, .slice A len cap, .int .u64 (a3 : Int)] w fun e w' => e = .returned (.bool true) ∧ Below w.heap.size w w' := by
  show Calls _ _ _ _ (Law w)
  by_cases hm : mayB z1 = true
  · have H0 := Lib.hid hm
    obtain ⟨n, rfl, h1, h2, h3, h4⟩ := mayB_yes hm
    have HR := Lib.hid R
    have hmax := R.max
    clear hm h3 h4 R
    go_enter Try.func7, Try.ntmps7
    go_wp2_with fail
    refine (known_any w).mono ?_
    rintro e w1 ⟨rfl, hO1⟩
    go_wp2_with fail
    refine (win_new a0 n n _ rfl b0 H0.out).mono ?_
    rintro e w2 ⟨g, rb, rfl, hW2, hO2, hg, hr⟩
    have HS : Hid (StW w w2 g rb ⟨a0, n, []⟩) := StW.mk' hW2 hO1 hO2 hg hr
    clear hW2 hO1 hO2 hg hr
    go_wp2_with fail
    go_loopg [10] 2000 (fun gk i wr => ∃ k : Nat, k ≤ len ∧ k ≤ 2000 ∧ gk = 2000 - k ∧ i = .int .i64 (k : Int) ∧ ∃ m, StW w wr g rb m ∧ m.floor = a0 ∧ m.width = n ∧ a3 ∉ m.taken)
    case atStart => exact ⟨0, by omega, by omega, rfl, rfl, _, HS.out, rfl, rfl, by simp⟩
    case round =>
      obtain ⟨k, hk, hk2, rfl, rfl, m, hS, hmf, hmw, hmt⟩ := hrel
      have HS2 := Lib.hid hS
      have HM := Lib.hid (And.intro hmf (And.intro hmw hmt))
      clear hS hmf hmw hmt
      by_cases hlt : k < len ∧ k < 2000
      · obtain ⟨hlt1, hlt2⟩ := hlt
        have hxc : xs.getD k 0 < 18446744073709551616 := HR.out.lt _ (getD_mem _ _ (by have := HR.out.len; omega))
        obtain ⟨ad, hA, hadl, hcell0⟩ := HR.out.at_ k hlt1
        subst hA
        have hcl : wr.cell? (ad.add k) = some (.int .u64 (xs.getD k 0 : Nat)) := (HS2.out.below.cell (p := ad.add k) (by rw [block_add]; exact hadl)).trans hcell0
        clear hcell0 hadl
        generalize xs.getD k 0 = c at *
        by_cases hc : c = a3
        · have hc1 : ((c : Int) != a3) = false := by rw [bne_eq_false_iff_eq]; omega
          clear hc
          go_wp2_with fail
          go_roundg (2000 - (k + 1))
          case measure => omega
          case rel => exact ⟨k + 1, by omega, by omega, rfl, by go_num, m, HS2.out, HM.out.1, HM.out.2.1, HM.out.2.2⟩
        · have hc1 : ((c : Int) != a3) = true := by rw [bne_iff_ne]; omega
          have HC := Lib.hid hc
          clear hc
          have t1 := Lib.hid (win_mark g rb m c _ HS2.out.win hxc)
          go_wp2_with fail
          refine t1.out.mono ?_
          rintro e w3 ⟨rfl, hW3, hO3⟩
          have H3 := Lib.hid (HS2.out.mark hW3 hO3)
          clear hW3 hO3
          go_wp2_with fail
          go_roundg (2000 - (k + 1))
          case measure => omega
          case rel => exact ⟨k + 1, by omega, by omega, rfl, by go_num, m.mark c, H3.out, (mark_floor m c).1.trans HM.out.1, (mark_floor m c).2.trans HM.out.2.1, fun h => (mark_mem h).elim HM.out.2.2 (fun h => HC.out h.symm)⟩
      · have hcs := reach_cases HM.out.2.2
        rw [HM.out.1, HM.out.2.1] at hcs
        have HT1 := Lib.hid (win_top g rb m _ HS2.out.win)
        have HT2 := Lib.hid (fun q => win_takes g rb m a3 _ (HS2.out.win.drewN q) b3)
        have HT3 := Lib.hid (fun q => win_mark g rb m a3 _ (HS2.out.win.drewN q) b3)
        have HT4 := Lib.hid (fun w3 (h : WinM w3 g rb (m.mark a3)) => by have := win_mark g rb (m.mark a3) a3 w3 h b3; rwa [takes_self] at this)
        have hb2 : k < len → ¬ k < 2000 := fun h1 h2 => hlt ⟨h1, h2⟩
        have htop := HS2.out.win.top_lt
        have HCS := Lib.hid hcs
        clear hcs hlt
        by_cases hkl : k < len
        · have hkl2 := hb2 hkl
          clear hb2
          by_cases hf : a0 ≤ a3
          all_goals
            rcases HCS.out with ⟨e1, eT⟩ | ⟨e1, e2, eT⟩ | ⟨e1, e2, e3, eT⟩ | ⟨e1, e2, e3, eT⟩
            all_goals
              try simp only [hf, decide_true, decide_false] at eT
              have HeT := Lib.hid eT
              have He1 := Lib.hid e1
              clear e1 eT HCS
              have t1 := HT1.out
              rw [He1.out] at t1
              have T1 := Lib.hid t1
              clear t1 HT1
              go_wp2_with fail
              refine T1.out.mono ?_
              rintro e w' ⟨q1, rfl, rfl⟩
              go_wp2_with fail
              have t2 := HT2.out q1
              rw [HeT.out] at t2
              refine t2.mono ?_
              clear t2
              rintro e w' ⟨q2, rfl, rfl⟩
              go_wp2_with fail
              have t3 := HT3.out (q1 + q2)
              rw [HeT.out] at t3
              refine t3.mono ?_
              clear t3
              rintro e w3 ⟨rfl, hW3, hO3⟩
              have H3 := Lib.hid (And.intro hW3 (HS2.out.mark hW3 hO3.of_drewN))
              clear hW3 hO3
              go_wp2_with fail
              refine (HT4.out _ H3.out.1).mono ?_
              rintro e w4 ⟨rfl, hW4, hO4⟩
              have H4 := Lib.hid (H3.out.2.mark hW4 hO4)
              clear hW4 hO4
              go_wp2_with fail
              go_ret
              exact ⟨rfl, H4.out.below⟩
        · clear hb2
          by_cases hf : a0 ≤ a3
          all_goals
            rcases HCS.out with ⟨e1, eT⟩ | ⟨e1, e2, eT⟩ | ⟨e1, e2, e3, eT⟩ | ⟨e1, e2, e3, eT⟩
            all_goals
              try simp only [hf, decide_true, decide_false] at eT
              have HeT := Lib.hid eT
              have He1 := Lib.hid e1
              clear e1 eT HCS
              have t1 := HT1.out
              rw [He1.out] at t1
              have T1 := Lib.hid t1
              clear t1 HT1
              go_wp2_with fail
              refine T1.out.mono ?_
              rintro e w' ⟨q1, rfl, rfl⟩
              go_wp2_with fail
              have t2 := HT2.out q1
              rw [HeT.out] at t2
              refine t2.mono ?_
              clear t2
              rintro e w' ⟨q2, rfl, rfl⟩
              go_wp2_with fail
              have t3 := HT3.out (q1 + q2)
              rw [HeT.out] at t3
              refine t3.mono ?_
              clear t3
              rintro e w3 ⟨rfl, hW3, hO3⟩
              have H3 := Lib.hid (And.intro hW3 (HS2.out.mark hW3 hO3.of_drewN))
              clear hW3 hO3
              go_wp2_with fail
              refine (HT4.out _ H3.out.1).mono ?_
              rintro e w4 ⟨rfl, hW4, hO4⟩
              have H4 := Lib.hid (H3.out.2.mark hW4 hO4)
              clear hW4 hO4
              go_wp2_with fail
              go_ret
              exact ⟨rfl, H4.out.below⟩
  · have hm0 : mayB z1 = false := by simpa using hm
    have H0 := Lib.hid hm0
    clear hm
    rcases mayB_cases hm0 with h1 | ⟨h1, h2⟩ | ⟨h1, h2, h3⟩
    all_goals
      clear hm0
      go_enter Try.func7, Try.ntmps7
      go_wp2_with fail
      refine (known_any w).mono ?_
      rintro e w1 ⟨rfl, hO1⟩
      go_wp2_with fail
      refine (new_no a0 z1 _ b0 H0.out).mono ?_
      rintro e w' ⟨rfl, rfl⟩
      go_wp2
      go_ret
      exact ⟨rfl, hO1.below (fun _ h => h.elim) (Nat.le_refl _)⟩
end Go.Proofs.Ythiiobhogkenhaa.windowReach
