/- The walk of WindowOrder. -/
import Derived.Test.YthiiobhogkenhaaWinO
import Derived.RegionTactic
import Derived.ChangeAlike
import Derived.Test.YthiiobhogkenhaaHarn
namespace Go.Proofs.Ythiiobhogkenhaa.windowOrder
open Go.RowKit Go.Proofs.Ythiiobhogkenhaa.K Go.Proofs.Ythiiobhogkenhaa.Win
set_option linter.unusedVariables false
def Law (w : World) (e : Ending) (w' : World) : Prop := e = .returned (.bool true) ∧ Below w.heap.size w w'

def vals (l : List Nat) : List Value := l.map fun (x : Nat) => Value.int .u64 (x : Int)
theorem vals_len (l : List Nat) : (vals l).length = l.length := by simp [vals]
/-- a law's window and its list -/
structure Ord (w wr : World) (g rb : Nat) (tv : Value) (m : M) (L : List Nat) : Prop where
  a : StW w wr g rb m
  own : wr.ownsRow 0 22 1 tv L.length (vals L)
  ht : ∀ b, tv.ownBlock = some b → w.heap.size ≤ b ∧ b ≠ g ∧ b ≠ rb
theorem Ord.drewN {w wr : World} {g rb : Nat} {tv : Value} {m : M} {L : List Nat} (h : Ord w wr g rb tv m L) (n : Nat) : Ord w (wr.drewN n) g rb tv m L := ⟨h.a.drewN n, own_drewN h.own n, h.ht⟩
theorem Ord.mark {w wr w2 : World} {g rb : Nat} {tv : Value} {m m2 : M} {L : List Nat} (h : Ord w wr g rb tv m L) (hw : WinM w2 g rb m2) (ho : Only wr w2 (fun k => k = g ∨ k = rb)) : Ord w w2 g rb tv m2 L :=
  ⟨h.a.mark hw ho, own_keep h.own ho (fun i hi hh => by have := h.ht i hi; rcases hh with rfl | rfl; exact this.2.1 rfl; exact this.2.2 rfl), h.ht⟩
theorem Ord.push {w wr w3 : World} {g rb c : Nat} {tv v1 : Value} {m : M} {L : List Nat} (h : Ord w wr g rb tv m L) (ho : w3.ownsRow 0 22 1 v1 (L.length + 1) (vals L ++ [.int .u64 (c : Int)]))
    (hO : Only wr w3 (fun k => tv.ownBlock = some k)) (hat : v1.ownBlock = tv.ownBlock ∨ ∃ b, v1.ownBlock = some b ∧ wr.heap.size ≤ b) : Ord w w3 g rb v1 m (L ++ [c]) := by
  have hlt := h.a.win.lt
  refine ⟨⟨h.a.win.only hO (fun h2 => (h.ht g h2).2.1 rfl) (fun h2 => (h.ht rb h2).2.2 rfl), Below.then_only h.a.below hO (Nat.le_refl _) (fun k hk => (h.ht k hk).1), h.a.hg, h.a.hr⟩, ?_, fun b hb2 => ?_⟩
  · simpa [vals] using ho
  · rcases hat with hat | ⟨b2, hat, hb3⟩
    · exact h.ht b (hat ▸ hb2)
    · rw [hat] at hb2
      injection hb2 with hb2
      subst hb2
      have := h.a.below.size
      exact ⟨by omega, by omega, by omega⟩
theorem Ord.form {w wr : World} {g rb : Nat} {tv : Value} {m : M} {L : List Nat} (h : Ord w wr g rb tv m L) (hp : 0 < L.length) : ∃ tb tc, tv = .slice (some ⟨tb, 0, none⟩) L.length tc := by
  obtain ⟨tb, tc, h1, _, _⟩ := World.ownsRow.form h.own hp
  exact ⟨tb, tc, h1⟩
theorem Ord.cell {w wr : World} {g rb tb n tc : Nat} {m : M} {L : List Nat} (h : Ord w wr g rb (.slice (some ⟨tb, 0, none⟩) n tc) m L) (p : Nat) (hp : p < L.length) : wr.cell? ⟨tb, p, none⟩ = some (.int .u64 (L.getD p 0 : Nat)) ∧ wr.frozen? ⟨tb, p, none⟩ = false := by
  obtain ⟨A, cap, hv, hc⟩ := own_form h.own
  obtain ⟨tb2, h1, h2⟩ := hc p hp
  injection hv with e1 e2 e3
  rw [h1] at e1
  injection e1 with e1
  injection e1 with e1
  subst e1
  obtain ⟨cs, hcs⟩ := own_blk h.own (k := tb) rfl
  refine ⟨h2.trans (by simp [vals, hp]), blk_free hcs p⟩
theorem Ord.store {w wr : World} {g rb tb n tc : Nat} {m : M} {L : List Nat} (h : Ord w wr g rb (.slice (some ⟨tb, 0, none⟩) n tc) m L) (p x : Nat) : Ord w (wr.setCell ⟨tb, p, none⟩ (.int .u64 (x : Int))) g rb (.slice (some ⟨tb, 0, none⟩) n tc) m (L.set p x) := by
  have ht := h.ht tb rfl
  have hO : Only wr (wr.setCell ⟨tb, p, none⟩ (.int .u64 (x : Int))) (fun k => k = tb) := (Only.refl wr (fun k => k = tb)).setCell (p := ⟨tb, p, none⟩) (.inl rfl) _
  refine ⟨⟨h.a.win.only hO (fun e => ht.2.1 e.symm) (fun e => ht.2.2 e.symm), Below.then_only h.a.below hO (Nat.le_refl _) (fun k hk => by rw [hk]; exact ht.1), h.a.hg, h.a.hr⟩, ?_, h.ht⟩
  obtain ⟨A, cap, hv, _⟩ := own_form h.own
  injection hv with e1 e2 e3
  subst e2
  have h2 := h.own.stored (g := tb) p (.int .u64 (x : Int))
  have he : (vals L).set p (.int .u64 (x : Int)) = vals (L.set p x) := by simp [vals, List.map_set]
  rw [he] at h2
  rw [List.length_set]
  exact h2.1

set_option maxRecDepth 100000 in
set_option maxHeartbeats 1000000 in
theorem walk (a0 : Nat) (b0 : a0 < 18446744073709551616) (z1 : Int) (l1 : -9223372036854775808 ≤ z1) (u1 : z1 ≤ 9223372036854775807) (z2 : Int) (l2 : -9223372036854775808 ≤ z2) (u2 : z2 ≤ 9223372036854775807) (A : Option Addr) (len cap : Nat) (xs : List Int) (w : World) (R : ReadsI .i64 w A len xs) :
    Calls Try.prog 8 #[.int .u64 (a0 : Int), .int .i64 z1, .int .i64 z2, .slice A len cap] w fun e w' => e = .returned (.bool true) ∧ Below w.heap.size w w' := by
  show Calls _ _ _ _ (Law w)
  by_cases hm : mayB z1 = true
  · have H0 := Lib.hid hm
    obtain ⟨n, rfl, h1, h2, h3, h4⟩ := mayB_yes hm
    have HR := Lib.hid R
    have hmax := R.max
    clear hm h3 h4 R
    by_cases hA : z2 < 1 ∨ 600 < z2 ∨ (18446744073709551014 : Int) < a0
    · have hA2 : z2 < 1 ∨ (1 ≤ z2 ∧ 600 < z2) ∨ (1 ≤ z2 ∧ z2 ≤ 600 ∧ 18446744073709551014 < a0) := by
        by_cases e1 : z2 < 1
        · exact .inl e1
        by_cases e2 : 600 < z2
        · exact .inr (.inl ⟨by omega, e2⟩)
        · exact .inr (.inr ⟨by omega, by omega, by omega⟩)
      clear hA
      rcases hA2 with e1 | ⟨e1, e2⟩ | ⟨e1, e2, e3⟩
      all_goals
        go_enter Try.func8, Try.ntmps8
        go_wp2_with fail
        refine (known_any w).mono ?_
        rintro e w1 ⟨rfl, hO1⟩
        go_wp2_with fail
        refine (win_new a0 n n _ rfl b0 H0.out).mono ?_
        rintro e w2 ⟨g, rb, rfl, hW2, hO2, hg, hr⟩
        have HS : Hid (StW w w2 g rb ⟨a0, n, []⟩) := StW.mk' hW2 hO1 hO2 hg hr
        clear hW2 hO1 hO2 hg hr
        go_wp2_with fail
        go_ret
        exact ⟨rfl, HS.out.below⟩
    · obtain ⟨N, rfl⟩ : ∃ N : Nat, z2 = N := ⟨z2.toNat, by omega⟩
      have g1 : 1 ≤ N := by omega
      have g2 : N ≤ 600 := by omega
      have g3 : a0 ≤ 18446744073709551014 := by omega
      have q1 : ¬ (N : Int) < 1 := by omega
      have q2 : ¬ 600 < (N : Int) := by omega
      have q3 : ¬ (18446744073709551014 : Int) < a0 := by omega
      clear hA l2 u2
      go_enter Try.func8, Try.ntmps8
      go_wp2_with fail
      refine (known_any w).mono ?_
      rintro e w1 ⟨rfl, hO1⟩
      go_wp2_with fail
      refine (win_new a0 n n _ rfl b0 H0.out).mono ?_
      rintro e w2 ⟨g, rb, rfl, hW2, hO2, hg, hr⟩
      have HS : Hid (StW w w2 g rb ⟨a0, n, []⟩) := StW.mk' hW2 hO1 hO2 hg hr
      clear hW2 hO1 hO2 hg hr
      go_wp2_with fail
      go_loopg [10, 11] N (fun gk tv i wr => ∃ k : Nat, k ≤ N ∧ gk = N - k ∧ i = .int .i64 (k : Int) ∧ Ord w wr g rb tv ⟨a0, n, []⟩ (ups a0 k))
      case atStart => exact ⟨0, by omega, rfl, rfl, ⟨HS.out, ⟨by simp [vals, ups], .inl ⟨rfl, rfl⟩⟩, fun b hb => by cases hb⟩⟩
      case round =>
        obtain ⟨k, hk, rfl, rfl, hS⟩ := hrel
        have HS2 := Lib.hid hS
        clear hS
        obtain ⟨TA, tc, rfl, htc⟩ := own_form HS2.out.own
        have hul : (ups a0 k).length = k := by simp [ups]
        rw [hul] at HS2 htc ⊢
        clear htc
        by_cases hlt : k < N
        · have HO : Hid (wr.ownsRow 0 22 1 (.slice TA k tc) (vals (ups a0 k)).length (vals (ups a0 k))) := by have := HS2.out.own; rwa [vals_len]
          have hl8 : ((vals (ups a0 k)).length + 1) * 8 ≤ 140737488355328 := by rw [vals_len, hul]; omega
          have hw64 : a0 + k < 18446744073709551616 := by omega
          have HX := Lib.hid (ups_snoc a0 k)
          have HUL := Lib.hid hul
          clear hul
          go_wp2_with (at_builtin; refine ap1 rfl (.tmp 45) (.tmp 50) 42 22 (.int .u64 0) 8 rfl Try.underlying42 info_u64r rfl (by decide) (.slice TA k tc) (vals (ups a0 k)) (.int .u64 ((a0 : Int) + (k : Int))) rfl rfl rfl HO.out hl8 ?_; intro v1 w3 ho hO hat; rw [vals_len] at ho; obtain ⟨A1, cap1, rfl, hc1⟩ := own_form ho; clear hc1; have HO1 := Lib.hid ho; have HA1 := Lib.hid hat; have HO3 := Lib.hid hO; clear ho hat hO)
          go_roundg (N - (k + 1))
          case measure => omega
          case rel =>
            refine ⟨k + 1, by omega, rfl, by go_num, ?_⟩
            rw [HX.out]
            exact Ord.push (c := a0 + k) HS2.out (by have := HO1.out; push_cast; exact this) HO3.out HA1.out
        · obtain rfl : k = N := by omega
          clear hlt
          have hG := good_ups a0 k
          have HS3 := Lib.hid HS2.out
          obtain ⟨tb, tc', hv⟩ := Ord.form HS2.out (by omega)
          have hTA : TA = some ⟨tb, 0, none⟩ := by injection hv
          subst hTA
          have HG := Lib.hid hG
          clear hG hv HS2
          have HUL := Lib.hid hul
          clear hul
          generalize ups a0 k = L0 at *
          go_wp2_with fail
          go_loopg [12] k (fun gk i wi => ∃ r : Nat, r ≤ 32 * k ∧ gk = k - r / 32 ∧ r % 32 = 0 ∧ r / 32 ≤ k ∧ i = .int .i64 (r : Int) ∧ ∃ L, Win.Good a0 k L ∧ Ord w wi g rb (.slice (some ⟨tb, 0, none⟩) k tc) ⟨a0, n, []⟩ L)
          case atStart => exact ⟨0, by omega, rfl, rfl, by omega, rfl, _, HG.out, HS3.out⟩
          case round =>
            obtain ⟨r, hr1, rfl, hr2, hr3, rfl, L, hGL, hOL⟩ := hrel
            have HGL := Lib.hid hGL
            have HOL := Lib.hid hOL
            have HR2 := Lib.hid hr2
            clear hGL hOL hr2
            by_cases hc1 : r + 31 < k
            · have hc1' : (r : Int) + 31 < k := by omega
              by_cases hc2 : r < len
              · have hzw := wf_i64 (HR.out.wf (xs.getD r 0) (by have := HR.out.len; simp only [List.getD_eq_getElem?_getD, List.getElem?_eq_getElem (show r < xs.length by omega), Option.getD_some]; exact List.getElem_mem _))
                obtain ⟨ad, hA, hadl, hcell0⟩ := HR.out.at_ r hc2
                subst hA
                have hcl : wr.cell? (ad.add r) = some (.int .i64 (xs.getD r 0)) := (HOL.out.a.below.cell (p := ad.add r) (by rw [block_add]; exact hadl)).trans hcell0
                clear hcell0 hadl
                generalize xs.getD r 0 = z at *
                obtain ⟨hz1, hz2⟩ := hzw
                have t1 : -31 ≤ z.tmod 32 := (tmod32 z).1
                have t2 : z.tmod 32 ≤ 31 := (tmod32 z).2
                have t3 : -288230376151711744 ≤ z.tdiv 32 := (tdiv32 z hz1 hz2).1
                have t4 : z.tdiv 32 ≤ 288230376151711743 := (tdiv32 z hz1 hz2).2
                have t5 : -31 ≤ (z.tdiv 32).tmod 32 := (tmod32 _).1
                have t6 : (z.tdiv 32).tmod 32 ≤ 31 := (tmod32 _).2
                obtain ⟨α, hα⟩ : ∃ α : Nat, (z.tmod 32 + 32) % 32 = α := ⟨((z.tmod 32 + 32) % 32).toNat, by omega⟩
                obtain ⟨β, hβ⟩ : ∃ β : Nat, ((z.tdiv 32).tmod 32 + 32) % 32 = β := ⟨(((z.tdiv 32).tmod 32 + 32) % 32).toNat, by omega⟩
                have hα2 : α < 32 := by omega
                have hβ2 : β < 32 := by omega
                have hll := HGL.out.len
                obtain ⟨ca, fa⟩ := HOL.out.cell (r + α) (by omega)
                obtain ⟨cb, fb⟩ := HOL.out.cell (r + β) (by omega)
                have HLL := Lib.hid hll
                clear hll
                have i1 : r + α < k := by omega
                have i2 : r + β < k := by omega
                have hsw := good_swap HGL.out i1 i2 (by have := HR2.out; omega)
                have hX : Hid (swap L (r + α) (r + β) = (L.set (r + α) (L.getD (r + β) 0)).set (r + β) (L.getD (r + α) 0)) := rfl
                have S1 := HOL.out.store (r + α) (L.getD (r + β) 0)
                have S2 := HOL.out.store (r + β) (L.getD (r + α) 0)
                obtain ⟨cab, fab⟩ := S1.cell (r + β) (by rw [List.length_set, HLL.out]; exact i2)
                obtain ⟨cba, fba⟩ := S2.cell (r + α) (by rw [List.length_set, HLL.out]; exact i1)
                have S3 := S1.store (r + β) (L.getD (r + α) 0)
                have HS4 := Lib.hid S3
                have HSW := Lib.hid hsw
                clear S1 S2 S3 hsw
                generalize (L.set (r + α) (L.getD (r + β) 0)).getD (r + β) 0 = y1 at *
                generalize (L.set (r + β) (L.getD (r + α) 0)).getD (r + α) 0 = y2 at *
                rw [← hX.out] at HS4
                clear hX
                generalize swap L (r + α) (r + β) = L2 at *
                generalize L.getD (r + α) 0 = x1 at *
                generalize L.getD (r + β) 0 = x2 at *
                have j1 : (r : Int) + α < k := by omega
                have j2 : (r : Int) + β < k := by omega
                have j3 : 0 ≤ (r : Int) + α := by omega
                have j4 : 0 ≤ (r : Int) + β := by omega
                go_wp2_with fail
                go_region
                go_wp2_with fail
                go_roundg (k - (r / 32 + 1))
                case measure => omega
                case rel => exact ⟨r + 32, by omega, by omega, by have := HR2.out; omega, by omega, by go_num, L2, HSW.out, HS4.out.drewN 1⟩
              · have hll := HGL.out.len
                go_wp2_with fail
                go_loopg [15] k (fun gk i wi => ∃ j : Nat, j ≤ k ∧ gk = k - j ∧ i = .int .i64 (j : Int) ∧ Ord w wi g rb (.slice (some ⟨tb, 0, none⟩) k tc) ⟨a0, n, L.take j⟩ L)
                case atStart => exact ⟨0, by omega, rfl, rfl, by simpa using HOL.out⟩
                case round =>
                  obtain ⟨j, hj, rfl, rfl, hO⟩ := hrel
                  have HO := Lib.hid hO
                  have HLL := Lib.hid hll
                  clear hO hll
                  by_cases hjk : j < k
                  · have hj1 : (j : Int) < k := by omega
                    obtain ⟨cj, fj⟩ := HO.out.cell j (by rw [HLL.out]; exact hjk)
                    have hxc := good_lt HGL.out hjk g2 g3
                    have T1 := Lib.hid (win_mark g rb ⟨a0, n, L.take j⟩ (L.getD j 0) wr HO.out.a.win hxc)
                    have E1 := Lib.hid (good_takes HGL.out hjk h1)
                    have E2 := Lib.hid (good_mark HGL.out hjk h1)
                    have E3 := Lib.hid (takes_self ⟨a0, n, L.take j⟩ (L.getD j 0))
                    generalize hcv : L.getD j 0 = c at *
                    have HCV := Lib.hid hcv
                    clear hcv
                    go_wp2_with fail
                    have t1 := T1.out
                    rw [E1.out] at t1
                    refine t1.mono ?_
                    clear t1
                    rintro e w5 ⟨rfl, hW5, hO5⟩
                    have H5 := Lib.hid (HO.out.mark hW5 hO5)
                    obtain ⟨cj2, fj2⟩ := H5.out.cell j (by rw [HLL.out]; exact hjk)
                    rw [HCV.out] at cj2
                    clear hW5 hO5 cj
                    go_wp2_with fail
                    have t2 := win_mark g rb _ c _ H5.out.a.win hxc
                    rw [E3.out] at t2
                    refine t2.mono ?_
                    clear t2
                    rintro e w6 ⟨rfl, hW6, hO6⟩
                    have H6 := Lib.hid (H5.out.mark hW6 hO6)
                    clear hW6 hO6
                    go_wp2_with fail
                    go_roundg (k - (j + 1))
                    case measure => omega
                    case rel =>
                      refine ⟨j + 1, by omega, rfl, by go_num, ?_⟩
                      rw [← E2.out]
                      have h7 := H6.out
                      rw [mark_no E3.out] at h7
                      exact h7
                  · obtain rfl : j = k := by omega
                    go_wp2_with fail
                    go_loopg [18] j (fun gk i wi => ∃ q : Nat, q ≤ j ∧ gk = j - q ∧ i = .int .i64 (q : Int) ∧ ∃ d, wi = wr.drewN d)
                    case atStart => exact ⟨0, by omega, rfl, rfl, 0, rfl⟩
                    case round =>
                      obtain ⟨q, hq, rfl, rfl, d, rfl⟩ := hrel
                      by_cases hqk : q < j
                      · have hq1 : (q : Int) < j := by omega
                        have hxc : a0 + q < 18446744073709551616 := by omega
                        have E4 := Lib.hid (good_all (w := n) HGL.out hqk)
                        go_wp2_with fail
                        have t1 := fun x hx => win_takes_int g rb _ (a0 + q) x _ (HO.out.a.win.drewN d) hx hxc
                        rw [E4.out] at t1
                        refine (t1 _ (by omega)).mono ?_
                        clear t1
                        rintro e w' ⟨q1, rfl, rfl⟩
                        go_wp2_with fail
                        go_roundg (j - (q + 1))
                        case measure => omega
                        case rel => exact ⟨q + 1, by omega, rfl, by go_num, _, rfl⟩
                      · go_wp2_with fail
                        go_ret
                        exact ⟨rfl, below_drewN HO.out.a.below d⟩
            · have hc1' : ¬ (r : Int) + 31 < k := by omega
              have hll := HGL.out.len
              go_wp2_with fail
              go_loopg [15] k (fun gk i wi => ∃ j : Nat, j ≤ k ∧ gk = k - j ∧ i = .int .i64 (j : Int) ∧ Ord w wi g rb (.slice (some ⟨tb, 0, none⟩) k tc) ⟨a0, n, L.take j⟩ L)
              case atStart => exact ⟨0, by omega, rfl, rfl, by simpa using HOL.out⟩
              case round =>
                obtain ⟨j, hj, rfl, rfl, hO⟩ := hrel
                have HO := Lib.hid hO
                have HLL := Lib.hid hll
                clear hO hll
                by_cases hjk : j < k
                · have hj1 : (j : Int) < k := by omega
                  obtain ⟨cj, fj⟩ := HO.out.cell j (by rw [HLL.out]; exact hjk)
                  have hxc := good_lt HGL.out hjk g2 g3
                  have T1 := Lib.hid (win_mark g rb ⟨a0, n, L.take j⟩ (L.getD j 0) wr HO.out.a.win hxc)
                  have E1 := Lib.hid (good_takes HGL.out hjk h1)
                  have E2 := Lib.hid (good_mark HGL.out hjk h1)
                  have E3 := Lib.hid (takes_self ⟨a0, n, L.take j⟩ (L.getD j 0))
                  generalize hcv : L.getD j 0 = c at *
                  have HCV := Lib.hid hcv
                  clear hcv
                  go_wp2_with fail
                  have t1 := T1.out
                  rw [E1.out] at t1
                  refine t1.mono ?_
                  clear t1
                  rintro e w5 ⟨rfl, hW5, hO5⟩
                  have H5 := Lib.hid (HO.out.mark hW5 hO5)
                  obtain ⟨cj2, fj2⟩ := H5.out.cell j (by rw [HLL.out]; exact hjk)
                  rw [HCV.out] at cj2
                  clear hW5 hO5 cj
                  go_wp2_with fail
                  have t2 := win_mark g rb _ c _ H5.out.a.win hxc
                  rw [E3.out] at t2
                  refine t2.mono ?_
                  clear t2
                  rintro e w6 ⟨rfl, hW6, hO6⟩
                  have H6 := Lib.hid (H5.out.mark hW6 hO6)
                  clear hW6 hO6
                  go_wp2_with fail
                  go_roundg (k - (j + 1))
                  case measure => omega
                  case rel =>
                    refine ⟨j + 1, by omega, rfl, by go_num, ?_⟩
                    rw [← E2.out]
                    have h7 := H6.out
                    rw [mark_no E3.out] at h7
                    exact h7
                · obtain rfl : j = k := by omega
                  go_wp2_with fail
                  go_loopg [18] j (fun gk i wi => ∃ q : Nat, q ≤ j ∧ gk = j - q ∧ i = .int .i64 (q : Int) ∧ ∃ d, wi = wr.drewN d)
                  case atStart => exact ⟨0, by omega, rfl, rfl, 0, rfl⟩
                  case round =>
                    obtain ⟨q, hq, rfl, rfl, d, rfl⟩ := hrel
                    by_cases hqk : q < j
                    · have hq1 : (q : Int) < j := by omega
                      have hxc : a0 + q < 18446744073709551616 := by omega
                      have E4 := Lib.hid (good_all (w := n) HGL.out hqk)
                      go_wp2_with fail
                      have t1 := fun x hx => win_takes_int g rb _ (a0 + q) x _ (HO.out.a.win.drewN d) hx hxc
                      rw [E4.out] at t1
                      refine (t1 _ (by omega)).mono ?_
                      clear t1
                      rintro e w' ⟨q1, rfl, rfl⟩
                      go_wp2_with fail
                      go_roundg (j - (q + 1))
                      case measure => omega
                      case rel => exact ⟨q + 1, by omega, rfl, by go_num, _, rfl⟩
                    · go_wp2_with fail
                      go_ret
                      exact ⟨rfl, below_drewN HO.out.a.below d⟩
  · have hm0 : mayB z1 = false := by simpa using hm
    have H0 := Lib.hid hm0
    clear hm
    rcases mayB_cases hm0 with h1 | ⟨h1, h2⟩ | ⟨h1, h2, h3⟩
    all_goals
      clear hm0
      go_enter Try.func8, Try.ntmps8
      go_wp2_with fail
      refine (known_any w).mono ?_
      rintro e w1 ⟨rfl, hO1⟩
      go_wp2_with fail
      refine (new_no a0 z1 _ b0 H0.out).mono ?_
      rintro e w' ⟨rfl, rfl⟩
      go_wp2
      go_ret
      exact ⟨rfl, hO1.below (fun _ h => h.elim) (Nat.le_refl _)⟩
end Go.Proofs.Ythiiobhogkenhaa.windowOrder
