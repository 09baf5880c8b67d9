/- The walks of package window. -/
import Derived.Test.YthiiobhogkenhaaWinS
namespace Go.Proofs.Ythiiobhogkenhaa.Win
open Go.RowKit Go.Proofs.Ythiiobhogkenhaa.K
set_option linter.unusedVariables false

/-- a window at block g, its ring at block rb -/
structure Win (w : World) (g rb : Nat) (s : S) : Prop where
  b : w.heap[g]? = some (.cells #[.int .u64 (s.floor : Int), .int .u64 (s.top : Int), .bool s.any, .int .u64 (s.width : Int), .slice (some ⟨rb, 0, none⟩) s.ring.length s.ring.length] 53 (0, 0))
  r : w.heap[rb]? = some (.cells (u64s s.ring) 22 (0, 0))
  ok : s.Ok
theorem Win.c0 {w : World} {g rb : Nat} {s : S} (h : Win w g rb s) : w.cell? ⟨g, 0, none⟩ = some (.int .u64 (s.floor : Int)) := (blk_cell h.b 0).trans rfl
theorem Win.c1 {w : World} {g rb : Nat} {s : S} (h : Win w g rb s) : w.cell? ⟨g, 1, none⟩ = some (.int .u64 (s.top : Int)) := (blk_cell h.b 1).trans rfl
theorem Win.c2 {w : World} {g rb : Nat} {s : S} (h : Win w g rb s) : w.cell? ⟨g, 2, none⟩ = some (.bool s.any) := (blk_cell h.b 2).trans rfl
theorem Win.c3 {w : World} {g rb : Nat} {s : S} (h : Win w g rb s) : w.cell? ⟨g, 3, none⟩ = some (.int .u64 (s.width : Int)) := (blk_cell h.b 3).trans rfl
theorem Win.c4 {w : World} {g rb : Nat} {s : S} (h : Win w g rb s) : w.cell? ⟨g, 4, none⟩ = some (.slice (some ⟨rb, 0, none⟩) s.ring.length s.ring.length) := (blk_cell h.b 4).trans rfl
theorem Win.only {w w' : World} {g rb : Nat} {s : S} {T : Nat → Prop} (h : Win w g rb s) (k : Only w w' T) (h1 : ¬ T g) (h2 : ¬ T rb) : Win w' g rb s := ⟨k.blk h.b h1, k.blk h.r h2, h.ok⟩
theorem Win.drewN {w : World} {g rb : Nat} {s : S} (h : Win w g rb s) (n : Nat) : Win (w.drewN n) g rb s := ⟨h.b, h.r, h.ok⟩
theorem Win.ne {w : World} {g rb : Nat} {s : S} (h : Win w g rb s) : g ≠ rb := blk_ne h.b h.r (by decide)

theorem Win.f {w : World} {g rb : Nat} {s : S} (h : Win w g rb s) (j : Nat) : w.frozen? ⟨g, j, none⟩ = false := blk_free h.b j
theorem Win.cr {w : World} {g rb : Nat} {s : S} (h : Win w g rb s) (c : Nat) : w.cell? ⟨rb, atI c s.width, none⟩ = some (.int .u64 (s.ring.getD (atI c s.width) 0 : Nat)) := (blk_cell h.r (atI c s.width)).trans (u64s_get _ _ (h.ok.at_lt c))
theorem Win.fr {w : World} {g rb : Nat} {s : S} (h : Win w g rb s) (j : Nat) : w.frozen? ⟨rb, j, none⟩ = false := blk_free h.r j
/-- a word of the ring is written -/
theorem Win.setRing {w : World} {g rb : Nat} {s : S} (h : Win w g rb s) (i x : Nat) (hi : i < s.ring.length) (hx : x < B64) :
    Win (w.setCell ⟨rb, i, none⟩ (.int .u64 (x : Int))) g rb { s with ring := s.ring.set i x } := by
  refine ⟨?_, ?_, ?_⟩
  · have := blk_far h.b (p := ⟨rb, i, none⟩) h.ne (.int .u64 (x : Int)); simpa using this
  · have := blk_set h.r i (.int .u64 (x : Int)); rwa [u64s_set] at this
  · refine ⟨h.ok.f, h.ok.t, h.ok.w1, h.ok.w2, h.ok.w3, by simp only [List.length_set]; exact h.ok.len, ?_⟩
    intro y hy
    rcases mem_set hy with h1 | rfl
    · exact h.ok.each y h1
    · exact hx
/-- the top is written -/
theorem Win.setTop {w : World} {g rb : Nat} {s : S} (h : Win w g rb s) (c : Nat) (hc : c < B64) :
    Win ((w.setCell ⟨g, 1, none⟩ (.int .u64 (c : Int))).setCell ⟨g, 2, none⟩ (.bool true)) g rb { s with top := c, any := true } := by
  refine ⟨?_, ?_, ⟨h.ok.f, hc, h.ok.w1, h.ok.w2, h.ok.w3, h.ok.len, h.ok.each⟩⟩
  · have := blk_set (blk_set h.b 1 (.int .u64 (c : Int))) 2 (.bool true); simpa using this
  · exact blk_far (blk_far h.r h.ne.symm _) h.ne.symm _
/-- the whole ring is cleared -/
theorem Win.clear {w : World} {g rb : Nat} {s : S} (h : Win w g rb s) (ty : TypeId) :
    ∃ w1, (Builtin.clear_ #[42] ty #[.slice (some ⟨rb, 0, none⟩) s.ring.length s.ring.length]).run Try.prog w = .ok (.tuple #[]) w1 ∧ Win w1 g rb { s with ring := List.replicate s.ring.length 0 } ∧ Only w w1 (fun k => k = rb) := by
  have hl : 0 < s.ring.length := by have := h.ok.at_lt 0; omega
  have hz : ∀ w, (zeroValue 22).run Try.prog w = .ok (.int .u64 0) w := fun _ => by kernel_rfl
  have hrun := Lib.run_clear_slice (P := Try.prog) w 42 22 ty (.int .u64 0) Try.underlying42 hz rfl rfl rb 0 s.ring.length s.ring.length hl
    (fun j hj => by rw [Nat.zero_add, blk_cell h.r, u64s_get _ _ hj]; rfl) (fun j _ => blk_free h.r _)
  obtain ⟨⟨c2, h1, h2, h3⟩, h4⟩ := setCells_blk (List.replicate s.ring.length (.int .u64 0)) 0 w _ h.r (by rw [u64s_size]; simp)
  have hc : c2 = u64s (List.replicate s.ring.length 0) := by
    apply Array.ext_getElem?
    intro i
    rw [h3]
    by_cases hi : i < s.ring.length
    · rw [if_pos (by simp; omega), u64s_get _ _ (by simp; exact hi)]
      simp [hi]
    · rw [if_neg (by simp; omega), Array.getElem?_eq_none (by rw [u64s_size]; omega), Array.getElem?_eq_none (by rw [u64s_size]; simp; omega)]
  refine ⟨_, hrun, ⟨?_, by rw [h1, hc], ⟨h.ok.f, h.ok.t, h.ok.w1, h.ok.w2, h.ok.w3, by simp only [List.length_replicate]; exact h.ok.len, ?_⟩⟩, h4⟩
  · have := h4.blk h.b h.ne
    simpa using this
  · intro x hx; simp only [List.mem_replicate] at hx; rw [hx.2]; unfold B64; omega

theorem at_any (g : Nat) (width c : Nat) (w : World) (h0 : 64 ≤ width) (h1 : width ≤ 1024) (hc : c < 18446744073709551616)
   (hcell : w.cell? ⟨g, 3, none⟩ = some (.int .u64 width)) :
    Calls Try.prog 26 #[.pointer (some ⟨g, 0, none⟩), .int .u64 c] w fun e w' => e = .returned (.tuple #[.int .i64 (atI c width), .int .u64 (atB c width)]) ∧ w = w' := by
  have e1 : 0 ≤ (c : Int) % width := Int.emod_nonneg _ (by omega)
  have e2 : (c : Int) % width < width := Int.emod_lt_of_pos _ (by omega)
  have e3 : 0 ≤ (c : Int) % width % 64 := Int.emod_nonneg _ (by omega)
  have e4 : (c : Int) % width % 64 ≤ 63 := by omega
  go_enter Try.func26, Try.ntmps26
  go_wp2
  go_ret2
  refine ⟨?_, rfl⟩
  go_simp
  have hb := atB_lt c width
  unfold B64 at hb
  refine ⟨by simp [atI], ?_⟩
  have hp : ((2 : Int) ^ (c % width % 64)) = ((atB c width : Nat) : Int) := by unfold atB; push_cast; rfl
  rw [hp, IntKind.wrap_u64]
  exact Int.emod_eq_of_lt (by omega) (by omega)

theorem at_int (g : Nat) (width c : Nat) (x : Int) (w : World) (hx : x = c) (h0 : 64 ≤ width) (h1 : width ≤ 1024) (hc : c < 18446744073709551616)
   (hcell : w.cell? ⟨g, 3, none⟩ = some (.int .u64 width)) :
    Calls Try.prog 26 #[.pointer (some ⟨g, 0, none⟩), .int .u64 x] w fun e w' => e = .returned (.tuple #[.int .i64 (atI c width), .int .u64 (atB c width)]) ∧ w = w' := by
  subst hx; exact at_any g width c w h0 h1 hc hcell

theorem takes_any (g rb : Nat) (s : S) (c : Nat) (w : World) (hW : Win w g rb s) (hc : c < 18446744073709551616) :
    Calls Try.prog 17 #[.pointer (some ⟨g, 0, none⟩), .int .u64 c] w (Quiet (.bool (s.takes c)) w) := by
  obtain ⟨floor, top, any, width, ring⟩ := s
  have c0 : w.cell? ⟨g, 0, none⟩ = some (.int .u64 (floor : Int)) := hW.c0
  have c1 : w.cell? ⟨g, 1, none⟩ = some (.int .u64 (top : Int)) := hW.c1
  have c2 : w.cell? ⟨g, 2, none⟩ = some (.bool any) := hW.c2
  have c3 : w.cell? ⟨g, 3, none⟩ = some (.int .u64 (width : Int)) := hW.c3
  have c4 : w.cell? ⟨g, 4, none⟩ = some (.slice (some ⟨rb, 0, none⟩) ring.length ring.length) := hW.c4
  have cr : w.cell? ⟨rb, atI c width, none⟩ = some (.int .u64 (ring.getD (atI c width) 0 : Nat)) := (blk_cell hW.r (atI c width)).trans (u64s_get _ _ (hW.ok.at_lt c))
  have hn : atI c width < ring.length := hW.ok.at_lt c
  have hx : ring.getD (atI c width) 0 < B64 := hW.ok.get_lt c
  have k := hW.ok
  have k1 : top < B64 := k.t
  have k2 : 64 ≤ width := k.w1
  have k3 : width ≤ 1024 := k.w2
  obtain ⟨t, ht⟩ : ∃ t, S.takes ⟨floor, top, any, width, ring⟩ c = t := ⟨_, rfl⟩
  rw [ht]
  have HT : Hid ((if c < floor then false else if any = false ∨ top < c then true else if width ≤ top - c then false else (band (ring.getD (atI c width) 0) (atB c width) == 0)) = t) := ht
  clear ht
  have H : Hid ((bits .and .u64 ((ring.getD (atI c width) 0 : Nat) : Int) (atB c width : Int) == 0) = (band (ring.getD (atI c width) 0) (atB c width) == 0)) := (by rw [band_eq hx (atB_lt _ _)]; exact beq_nat0 _)
  unfold B64 at k1
  clear hW k hx
  generalize ring.getD (atI c width) 0 = x at *
  generalize ring.length = n at *
  by_cases h1 : c < floor
  · go_enter Try.func17, Try.ntmps17
    go_wp2_with fail
    go_ret
    exact ⟨0, ret_bool (by rw [← HT.out]; simp [h1]), rfl⟩
  by_cases h2 : any = false
  · subst h2
    go_enter Try.func17, Try.ntmps17
    go_wp2_with fail
    go_ret
    exact ⟨0, ret_bool (by rw [← HT.out]; simp [h1]), rfl⟩
  obtain rfl : any = true := by simpa using h2
  clear h2
  by_cases h3 : top < c
  · go_enter Try.func17, Try.ntmps17
    go_wp2_with fail
    go_ret
    exact ⟨0, ret_bool (by rw [← HT.out]; simp [h1, h3]), rfl⟩
  by_cases h4 : width ≤ top - c
  · have h5 : (width : Int) ≤ top - c := by omega
    go_enter Try.func17, Try.ntmps17
    go_wp2_with fail
    go_quiet (fail)
    go_wp2_with fail
    go_ret
    exact ⟨_, ret_bool (by rw [← HT.out]; simp [h1, h3, h4]), rfl⟩
  · have h5 : ¬ (width : Int) ≤ top - c := by omega
    go_enter Try.func17, Try.ntmps17
    go_wp2_with fail
    go_quiet (fail)
    go_wp2_with (go_at_call 26; refine (at_any g width c _ k2 k3 hc (by simpa using c3)).mono ?_; rintro e w' ⟨rfl, rfl⟩)
    go_ret
    exact ⟨_, ret_bool (by rw [← HT.out, H.out]; simp [h1, h3, h4]), rfl⟩

/-- what rise answers -/
def Rise (w : World) (g rb : Nat) (s : S) (e : Ending) (w' : World) : Prop := e = .returned (.tuple #[]) ∧ Win w' g rb s ∧ Only w w' (fun k => k = g ∨ k = rb)

/-- the ring behind j rounds of the clearing -/
structure Mid (w wr : World) (g rb : Nat) (s : S) (j : Nat) : Prop where
  win : Win wr g rb { s with ring := clrs s.width (s.top + 1) j s.ring }
  only : Only w wr (fun k => k = g ∨ k = rb)
theorem rise_any (g rb : Nat) (s : S) (c : Nat) (w : World) (hW : Win w g rb s) (hc : c < 18446744073709551616) (hr : s.any = false ∨ s.top < c) :
    Calls Try.prog 27 #[.pointer (some ⟨g, 0, none⟩), .int .u64 c] w (Rise w g rb (s.rise c)) := by
  obtain ⟨floor, top, any, width, ring⟩ := s
  have c1 : w.cell? ⟨g, 1, none⟩ = some (.int .u64 (top : Int)) := hW.c1
  have c2 : w.cell? ⟨g, 2, none⟩ = some (.bool any) := hW.c2
  have c3 : w.cell? ⟨g, 3, none⟩ = some (.int .u64 (width : Int)) := hW.c3
  have c4 : w.cell? ⟨g, 4, none⟩ = some (.slice (some ⟨rb, 0, none⟩) ring.length ring.length) := hW.c4
  have k := hW.ok
  have k1 : top < B64 := k.t
  have k2 : 64 ≤ width := k.w1
  have k3 : width ≤ 1024 := k.w2
  unfold B64 at k1
  by_cases h2 : any = false
  · subst h2
    go_enter Try.func27, Try.ntmps27
    go_wp2_with fail
    go_quiet (fail)
    obtain ⟨w1, hcl, hW1, hO1⟩ := (hW.drewN nq).clear 0
    have d1 : w1.cell? ⟨g, 1, none⟩ = some (.int .u64 (top : Int)) := hW1.c1
    have d2 : w1.cell? ⟨g, 2, none⟩ = some (.bool false) := hW1.c2
    have f1 := hW1.f 1
    have f2 := hW1.f 2
    go_wp2_with fail
    go_end0
    refine ⟨rfl, ?_, ?_⟩
    · have := hW1.setTop c hc
      simpa [S.rise] using this
    · exact (((hO1.of_drewN.mono (fun _ _ h => .inr h)).setCell (p := ⟨g, 1, none⟩) (.inl (.inl rfl)) _).setCell (p := ⟨g, 2, none⟩) (.inl (.inl rfl)) _)
  obtain rfl : any = true := by simpa using h2
  obtain hr : top < c := by simpa using hr
  clear h2
  by_cases h4 : width ≤ c - top
  · have h5 : (width : Int) ≤ c - top := by omega
    go_enter Try.func27, Try.ntmps27
    go_wp2_with fail
    go_quiet (fail)
    obtain ⟨w1, hcl, hW1, hO1⟩ := (hW.drewN nq).clear 0
    have d1 : w1.cell? ⟨g, 1, none⟩ = some (.int .u64 (top : Int)) := hW1.c1
    have d2 : w1.cell? ⟨g, 2, none⟩ = some (.bool true) := hW1.c2
    have f1 := hW1.f 1
    have f2 := hW1.f 2
    go_wp2_with fail
    go_end0
    refine ⟨rfl, ?_, ?_⟩
    · have := hW1.setTop c hc
      simpa [S.rise, h4] using this
    · exact (((hO1.of_drewN.mono (fun _ _ h => .inr h)).setCell (p := ⟨g, 1, none⟩) (.inl (.inl rfl)) _).setCell (p := ⟨g, 2, none⟩) (.inl (.inl rfl)) _)
  · have h5 : ¬ (width : Int) ≤ c - top := by omega
    go_enter Try.func27, Try.ntmps27
    go_wp2_with fail
    go_quiet (fail)
    go_wp2_with fail
    go_loopw [35] (fun i wr => ∃ j : Nat, j ≤ c - top ∧ i = .int .u64 (j : Int) ∧ Mid w wr g rb ⟨floor, top, true, width, ring⟩ j) (fun i _ => c - top - (intOf i).toNat)
    case atStart => exact ⟨0, by omega, rfl, ⟨hW.drewN nq, Only.drewN _ (Only.refl _ _)⟩⟩
    case round =>
      obtain ⟨j, hj, rfl, hM⟩ := hrel
      have hW2 := hM.win
      have d1 : wr.cell? ⟨g, 1, none⟩ = some (.int .u64 (top : Int)) := hW2.c1
      have d2 : wr.cell? ⟨g, 2, none⟩ = some (.bool true) := hW2.c2
      have d3 : wr.cell? ⟨g, 3, none⟩ = some (.int .u64 (width : Int)) := hW2.c3
      have d4 : wr.cell? ⟨g, 4, none⟩ = some (.slice (some ⟨rb, 0, none⟩) ring.length ring.length) := by have := hW2.c4; simpa [clrs_len] using this
      by_cases hlt : j < c - top
      · have h6 : (j : Int) < c - top := by omega
        have d5 : wr.cell? ⟨rb, atI (top + 1 + j) width, none⟩ = some (.int .u64 ((clrs width (top + 1) j ring).getD (atI (top + 1 + j) width) 0 : Nat)) := hW2.cr _
        have hx : (clrs width (top + 1) j ring).getD (atI (top + 1 + j) width) 0 < B64 := hW2.ok.get_lt (top + 1 + j)
        have hi : atI (top + 1 + j) width < ring.length := k.at_lt (top + 1 + j)
        have d6 := hW2.fr (atI (top + 1 + j) width)
        have HN := Lib.hid (hW2.setRing (atI (top + 1 + j) width) (bclr ((clrs width (top + 1) j ring).getD (atI (top + 1 + j) width) 0) (atB (top + 1 + j) width)) (by simp only [clrs_len]; exact hi) (bclr_lt hx))
        have hb := bclr_eq hx (atB_lt (top + 1 + j) width)
        have hO := hM.only
        clear hW2 hM
        generalize hq : (clrs width (top + 1) j ring).getD (atI (top + 1 + j) width) 0 = x at *
        have HQ := Lib.hid hq
        clear hq
        go_wp2_with (go_at_call 26; refine (at_int g width (top + 1 + j) _ _ (by omega) k2 k3 (by omega) (by simpa using d3)).mono ?_; rintro e w' ⟨rfl, rfl⟩)
        go_roundw
        case rel =>
          have hw := HN.out
          rw [← HQ.out] at hw
          refine ⟨j + 1, by omega, by go_num, ⟨?_, hO.setCell (p := ⟨rb, _, none⟩) (.inl (.inr rfl)) _⟩⟩
          rw [← HQ.out]
          exact hw
        case measure => simp [intOf]; omega
      · have f1 := hW2.f 1
        have f2 := hW2.f 2
        have h6 : ¬ (j : Int) < c - top := by omega
        obtain rfl : j = c - top := by omega
        go_wp2_with fail
        go_end0
        refine ⟨rfl, ?_, ?_⟩
        · have := hW2.setTop c hc
          simpa [S.rise, h4] using this
        · exact ((hM.only.setCell (p := ⟨g, 1, none⟩) (.inl (.inl rfl)) _).setCell (p := ⟨g, 2, none⟩) (.inl (.inl rfl)) _)

/-- what Mark answers -/
def Mark (w : World) (g rb : Nat) (b : Bool) (s : S) (e : Ending) (w' : World) : Prop := e = .returned (.bool b) ∧ Win w' g rb s ∧ Only w w' (fun k => k = g ∨ k = rb)

theorem mark_any (g rb : Nat) (s : S) (c : Nat) (w : World) (hW : Win w g rb s) (hc : c < 18446744073709551616) :
    Calls Try.prog 20 #[.pointer (some ⟨g, 0, none⟩), .int .u64 c] w (Mark w g rb (s.takes c) (s.mark c)) := by
  have k := hW.ok
  have k2 := k.w1
  have k3 := k.w2
  by_cases ht : s.takes c = true
  · have hs : s.mark c = (if s.any = false ∨ s.top < c then s.rise c else s).put c := by simp [S.mark, ht]
    obtain ⟨s1, hs1⟩ : ∃ s1, (if s.any = false ∨ s.top < c then s.rise c else s) = s1 := ⟨_, rfl⟩
    rw [hs1] at hs
    have hsame : s1.width = s.width := by rw [← hs1]; split <;> rfl
    rw [hs, ht]
    have fin : ∀ (w1 : World), Win w1 g rb s1 → Only w w1 (fun k => k = g ∨ k = rb) → Mark w g rb true (s1.put c) (.returned (.bool true)) (w1.setCell ⟨rb, atI c s.width, none⟩ (.int .u64 (bor (s1.ring.getD (atI c s.width) 0) (atB c s.width) : Nat))) := fun w1 h1 h2 => by
      rw [← hsame]
      exact ⟨rfl, h1.setRing _ _ (h1.ok.at_lt c) (bor_lt (h1.ok.get_lt c) (atB_lt _ _)), h2.setCell (.inl (.inr rfl)) _⟩
    have HT : Hid (Calls Try.prog 17 #[.pointer (some ⟨g, 0, none⟩), .int .u64 (c : Int)] w (Quiet (.bool true) w)) := by have := takes_any g rb s c w hW hc; rwa [ht] at this
    by_cases hr : s.any = false ∨ s.top < c
    · rw [if_pos hr] at hs1
      have HR : Hid (∀ w', Win w' g rb s → Calls Try.prog 27 #[.pointer (some ⟨g, 0, none⟩), .int .u64 (c : Int)] w' (Rise w' g rb s1)) := fun w' h => by have := rise_any g rb s c w' h hc hr; rwa [hs1] at this
      have HW := Lib.hid hW
      have c1 := hW.c1
      have c2 := hW.c2
      clear ht hs1 hs k
      by_cases ha : s.any = false
      · rw [ha] at c2
        clear hr ha hW
        go_enter Try.func20, Try.ntmps20
        go_wp2_with fail
        refine HT.out.mono ?_
        rintro e w' ⟨m, rfl, rfl⟩
        go_wp2_with fail
        refine (HR.out _ (HW.out.drewN m)).mono ?_
        rintro e w1 ⟨rfl, hW1, hO1⟩
        replace hO1 := hO1.of_drewN
        have d3 := hW1.c3
        have d4 := hW1.c4
        have d5 := hW1.cr c
        have d6 := hW1.fr (atI c s1.width)
        have hi := hW1.ok.at_lt c
        have hb := bor_eq (hW1.ok.get_lt c) (atB_lt c s1.width)
        rw [hsame] at d3 d5 d6 hi hb
        clear hsame
        generalize s1.ring.getD (atI c s.width) 0 = x at d5 hb fin
        go_wp2_with fail
        refine (at_any g s.width c _ k2 k3 hc d3).mono ?_
        rintro e w' ⟨rfl, rfl⟩
        go_wp2_with fail
        go_ret
        exact fin _ hW1 hO1
      · have ha1 : s.any = true := by simpa using ha
        rw [ha1] at c2
        have ha2 : s.top < c := by simpa [ha] using hr
        clear hr ha ha1 hW
        go_enter Try.func20, Try.ntmps20
        go_wp2_with fail
        refine HT.out.mono ?_
        rintro e w' ⟨m, rfl, rfl⟩
        go_wp2_with fail
        refine (HR.out _ (HW.out.drewN m)).mono ?_
        rintro e w1 ⟨rfl, hW1, hO1⟩
        replace hO1 := hO1.of_drewN
        have d3 := hW1.c3
        have d4 := hW1.c4
        have d5 := hW1.cr c
        have d6 := hW1.fr (atI c s1.width)
        have hi := hW1.ok.at_lt c
        have hb := bor_eq (hW1.ok.get_lt c) (atB_lt c s1.width)
        rw [hsame] at d3 d5 d6 hi hb
        clear hsame
        generalize s1.ring.getD (atI c s.width) 0 = x at d5 hb fin
        go_wp2_with fail
        refine (at_any g s.width c _ k2 k3 hc d3).mono ?_
        rintro e w' ⟨rfl, rfl⟩
        go_wp2_with fail
        go_ret
        exact fin _ hW1 hO1
    · rw [if_neg hr] at hs1
      subst hs1
      have c1 := hW.c1
      have c2 := hW.c2
      have hO1 : ∀ m, Only w (w.drewN m) (fun k => k = g ∨ k = rb) := fun m => Only.drewN _ (Only.refl _ _)
      have ha1 : s.any = true := by simpa using fun h => hr (.inl h)
      have ha2 : ¬ s.top < c := fun h => hr (.inr h)
      rw [ha1] at c2
      clear hr ht hs ha1 k hsame
      have d3 := hW.c3
      have d4 := hW.c4
      have d5 := hW.cr c
      have d6 := hW.fr (atI c s.width)
      have hi := hW.ok.at_lt c
      have hb := bor_eq (hW.ok.get_lt c) (atB_lt c s.width)
      have HW := Lib.hid hW
      clear hW
      generalize s.ring.getD (atI c s.width) 0 = x at d5 hb fin
      go_enter Try.func20, Try.ntmps20
      go_wp2_with fail
      refine HT.out.mono ?_
      rintro e w' ⟨m, rfl, rfl⟩
      go_wp2_with fail
      refine (at_any g s.width c _ k2 k3 hc (HW.out.drewN m).c3).mono ?_
      rintro e w' ⟨rfl, rfl⟩
      go_wp2_with fail
      go_ret
      exact fin _ (HW.out.drewN m) (hO1 m)
  · have ht0 : s.takes c = false := by simpa using ht
    have hs : s.mark c = s := by simp [S.mark, ht0]
    rw [hs, ht0]
    have HT : Hid (Calls Try.prog 17 #[.pointer (some ⟨g, 0, none⟩), .int .u64 (c : Int)] w (Quiet (.bool false) w)) := by have := takes_any g rb s c w hW hc; rwa [ht0] at this
    clear ht hs ht0
    go_enter Try.func20, Try.ntmps20
    go_wp2_with fail
    refine HT.out.mono ?_
    rintro e w' ⟨m, rfl, rfl⟩
    go_wp2_with fail
    go_ret
    exact ⟨rfl, hW.drewN m, Only.drewN _ (Only.refl _ _)⟩
end Go.Proofs.Ythiiobhogkenhaa.Win
