/- The windows by the list of what was taken: the program's and the document's side by side. -/
import Derived.Test.YthiiobhogkenhaaWinN
import Derived.Test.YthiiobhogkenhaaRefW
namespace Go.Proofs.Ythiiobhogkenhaa.Win
open Go.RowKit Go.Proofs.Ythiiobhogkenhaa.K
set_option linter.unusedVariables false

/-- the program's window at block g, its ring at rb -/
def WinM (w : World) (g rb : Nat) (m : M) : Prop := ∃ s, Win w g rb s ∧ Rep s m
theorem WinM.only {w w' : World} {g rb : Nat} {m : M} {T : Nat → Prop} (h : WinM w g rb m) (k : Only w w' T) (h1 : ¬ T g) (h2 : ¬ T rb) : WinM w' g rb m := by
  obtain ⟨s, a, b⟩ := h; exact ⟨s, a.only k h1 h2, b⟩
theorem WinM.drewN {w : World} {g rb : Nat} {m : M} (h : WinM w g rb m) (n : Nat) : WinM (w.drewN n) g rb m := by
  obtain ⟨s, a, b⟩ := h; exact ⟨s, a.drewN n, b⟩
theorem WinM.lt {w : World} {g rb : Nat} {m : M} (h : WinM w g rb m) : g < w.heap.size ∧ rb < w.heap.size ∧ g ≠ rb := by
  obtain ⟨s, a, b⟩ := h; exact ⟨blk_lt a.b, blk_lt a.r, a.ne⟩

def MarkM (w : World) (g rb : Nat) (b : Bool) (m : M) (e : Ending) (w' : World) : Prop := e = .returned (.bool b) ∧ WinM w' g rb m ∧ Only w w' (fun k => k = g ∨ k = rb)

theorem win_takes (g rb : Nat) (m : M) (c : Nat) (w : World) (hW : WinM w g rb m) (hc : c < 18446744073709551616) :
    Calls Try.prog 17 #[.pointer (some ⟨g, 0, none⟩), .int .u64 (c : Int)] w (Quiet (.bool (m.takes c)) w) := by
  obtain ⟨s, a, b⟩ := hW
  rw [← b.takes c]; exact takes_any g rb s c w a hc
theorem win_mark (g rb : Nat) (m : M) (c : Nat) (w : World) (hW : WinM w g rb m) (hc : c < 18446744073709551616) :
    Calls Try.prog 20 #[.pointer (some ⟨g, 0, none⟩), .int .u64 (c : Int)] w (MarkM w g rb (m.takes c) (m.mark c)) := by
  obtain ⟨s, a, b⟩ := hW
  rw [← b.takes c]
  exact (mark_any g rb s c w a hc).mono fun e w' h => ⟨h.1, ⟨_, h.2.1, b.mark hc⟩, h.2.2⟩
theorem win_top (g rb : Nat) (m : M) (w : World) (hW : WinM w g rb m) :
    Calls Try.prog 16 #[.pointer (some ⟨g, 0, none⟩)] w (Quiet (.tuple #[.int .u64 (m.top : Int), .bool m.any]) w) := by
  obtain ⟨s, a, b⟩ := hW
  rw [← b.top, ← b.any]; exact top_any g rb s w a
theorem win_floor (g rb : Nat) (m : M) (w : World) (hW : WinM w g rb m) :
    Calls Try.prog 18 #[.pointer (some ⟨g, 0, none⟩)] w fun e w' => e = .returned (.int .u64 (m.floor : Int)) ∧ w = w' := by
  obtain ⟨s, a, b⟩ := hW
  rw [← b.floor]; exact floor_any g rb s w a
theorem mayB_iff (width : Int) : mayB width = true ↔ 64 ≤ width ∧ width ≤ 1024 ∧ width % 64 = 0 := by
  unfold mayB; simp only [Bool.and_eq_true, decide_eq_true_eq, and_assoc]
theorem mayB_cases {z : Int} (h : mayB z = false) : z < 64 ∨ (64 ≤ z ∧ 1024 < z) ∨ (64 ≤ z ∧ z ≤ 1024 ∧ (z % 64 == 0) = false) := by
  by_cases h1 : z < 64
  · exact .inl h1
  by_cases h2 : 1024 < z
  · exact .inr (.inl ⟨by omega, h2⟩)
  refine .inr (.inr ⟨by omega, by omega, ?_⟩)
  have g0 : 64 ≤ z := by omega
  have g1 : z ≤ 1024 := by omega
  simp [mayB, g0, g1] at h
  simp; exact h
theorem mayB_yes {z : Int} (h : mayB z = true) : ∃ n : Nat, z = n ∧ 64 ≤ n ∧ n ≤ 1024 ∧ n % 64 = 0 ∧ ((z % 64 == 0) = true) := by
  rw [mayB_iff] at h
  exact ⟨z.toNat, by omega, by omega, by omega, by omega, by simp; omega⟩
def NewM (w : World) (floor width : Nat) (e : Ending) (w' : World) : Prop :=
  ∃ g rb, e = .returned (.pointer (some ⟨g, 0, none⟩)) ∧ WinM w' g rb ⟨floor, width, []⟩ ∧ Only w w' (fun _ => False) ∧ w.heap.size ≤ g ∧ w.heap.size ≤ rb
theorem win_new (floor width : Nat) (x : Int) (w : World) (hx : x = width) (hf : floor < 18446744073709551616) (h : mayB x = true) :
    Calls Try.prog 15 #[.int .u64 (floor : Int), .int .i64 x] w (NewM w floor width) := by
  subst hx
  rw [mayB_iff] at h
  exact (new_yes floor width w hf (by omega) (by omega) (by omega)).mono fun e w' ⟨g, rb, h1, h2, h3, h4, h5⟩ => ⟨g, rb, h1, ⟨_, h2, Rep.new hf (by omega) (by omega) (by omega)⟩, h3, h4, h5⟩

/-! the document's New -/
def RefNew (w : World) (floor width : Nat) (e : Ending) (w' : World) : Prop :=
  ∃ g, e = .returned (.pointer (some ⟨g, 0, none⟩)) ∧ Ref w' g (.slice none 0 0) ⟨floor, width, []⟩ ∧ Only w w' (fun _ => False) ∧ w.heap.size ≤ g
theorem ref_new (floor width : Nat) (x : Int) (w : World) (hx : x = width) (hf : floor < 18446744073709551616) (h : mayB x = true) :
    Calls Try.prog 21 #[.int .u64 (floor : Int), .int .i64 x] w (RefNew w floor width) := by
  subst hx
  rw [mayB_iff] at h
  obtain ⟨h1, h2, h3⟩ := h
  have g3 : ((width : Int) % 64 != 0) = false := by simp; omega
  have HF : Hid (RefNew w floor width (.returned (.pointer (some ⟨w.heap.size, 0, none⟩))) (w.alloc (.cells #[.int .u64 (floor : Int), .int .i64 (width : Int), .slice none 0 0] 58))) :=
    ⟨w.heap.size, rfl, ⟨blk_new w _, ⟨by simp, .inl ⟨rfl, rfl⟩⟩, (fun x hx => by cases hx), by show width ≤ 1024; omega⟩, (Only.refl w _).alloc _, Nat.le_refl _⟩
  go_enter Try.func21, Try.ntmps21
  go_wp2_with fail
  go_ret
  exact HF.out
theorem ref_no (floor : Nat) (width : Int) (w : World) (hf : floor < 18446744073709551616) (h : mayB width = false) :
    Calls Try.prog 21 #[.int .u64 (floor : Int), .int .i64 width] w fun e w' => e = .returned (.pointer none) ∧ w = w' := by
  by_cases h1 : width < 64
  · clear h
    go_enter Try.func21, Try.ntmps21
    go_wp2_with fail
    go_ret
    exact ⟨rfl, rfl⟩
  by_cases h2 : 1024 < width
  · clear h
    go_enter Try.func21, Try.ntmps21
    go_wp2_with fail
    go_ret
    exact ⟨rfl, rfl⟩
  have g0 : 64 ≤ width := by omega
  have g1 : width ≤ 1024 := by omega
  have g2 : (width % 64 != 0) = true := by simp [mayB, g0, g1] at h; simp; exact h
  have g3 : ¬ width % 64 = 0 := by simpa using g2
  clear h h1 h2
  go_enter Try.func21, Try.ntmps21
  go_wp2_with fail
  go_ret
  exact ⟨rfl, rfl⟩

/-! known: what every law asks first -/
def known (w : World) (e : Ending) (w' : World) : Prop := e = .returned (.bool true) ∧ Only w w' (fun _ => False)
def k0 : M := ⟨5, 64, []⟩
def k1 : M := ⟨5, 64, [5]⟩
def k2 : M := ⟨5, 64, [5, 70]⟩
theorem only_new {w w1 w2 : World} {g rb : Nat} (h : Only w w1 (fun _ => False)) (hg : w.heap.size ≤ g) (hr : w.heap.size ≤ rb) (k : Only w1 w2 (fun k => k = g ∨ k = rb)) : Only w w2 (fun _ => False) :=
  h.then_ k (fun i hi => .inr (by rcases hi with rfl | rfl <;> assumption))
theorem only_drewN {w w1 : World} {S : Nat → Prop} (h : Only w w1 S) (n : Nat) : Only w (w1.drewN n) S := h.drewN n
theorem known_any (w : World) : Calls Try.prog 12 #[] w (known w) := by
  have e0 : M.takes ⟨5, 64, []⟩ 4 = false := by decide
  have e1 : M.takes ⟨5, 64, []⟩ 5 = true := by decide
  have e1m : M.mark ⟨5, 64, []⟩ 5 = k1 := by rfl
  have e2 : M.takes k1 5 = false := by decide
  have e2m : M.mark k1 5 = k1 := by rfl
  have e3 : M.takes k1 70 = true := by decide
  have e3m : M.mark k1 70 = k2 := by rfl
  have e4 : M.takes k2 6 = false := by decide
  have e5 : M.takes k2 7 = true := by decide
  have e6 : M.top k2 = 70 := by decide
  have e7 : M.any k2 = true := by decide
  go_enter Try.func12, Try.ntmps12
  go_wp2_with fail
  refine (win_new 5 64 64 _ rfl (by decide) (by decide)).mono ?_
  rintro e w1 ⟨g, rb, rfl, hW1, hO1, hg, hr⟩
  have H1 := Lib.hid hW1
  clear hW1
  go_wp2_with fail
  have t1 := win_takes g rb _ 4 w1 H1.out (by decide)
  rw [e0] at t1
  refine t1.mono ?_
  clear t1
  rintro e w' ⟨m1, rfl, rfl⟩
  have H2 := Lib.hid (WinM.drewN H1.out m1)
  go_wp2_with fail
  have t1 := win_mark g rb _ 5 _ H2.out (by decide)
  rw [e1, e1m] at t1
  refine t1.mono ?_
  clear t1
  rintro e w2 ⟨rfl, hW2, hO2⟩
  have H3 := Lib.hid hW2
  have K3 := Lib.hid (only_new (only_drewN hO1 m1) hg hr hO2)
  clear hW2 hO2
  go_wp2_with fail
  have t1 := win_mark g rb _ 5 _ H3.out (by decide)
  rw [e2, e2m] at t1
  refine t1.mono ?_
  clear t1
  rintro e w3 ⟨rfl, hW3, hO3⟩
  have H4 := Lib.hid hW3
  have K4 := Lib.hid (only_new K3.out hg hr hO3)
  clear hW3 hO3
  go_wp2_with fail
  have t1 := win_mark g rb _ 70 _ H4.out (by decide)
  rw [e3, e3m] at t1
  refine t1.mono ?_
  clear t1
  rintro e w4 ⟨rfl, hW4, hO4⟩
  have H5 := Lib.hid hW4
  have K5 := Lib.hid (only_new K4.out hg hr hO4)
  clear hW4 hO4
  go_wp2_with fail
  have t1 := win_takes g rb _ 6 w4 H5.out (by decide)
  rw [e4] at t1
  refine t1.mono ?_
  clear t1
  rintro e w' ⟨m2, rfl, rfl⟩
  have H6 := Lib.hid (WinM.drewN H5.out m2)
  go_wp2_with fail
  have t1 := win_takes g rb _ 7 _ H6.out (by decide)
  rw [e5] at t1
  refine t1.mono ?_
  clear t1
  rintro e w' ⟨m3, rfl, rfl⟩
  have H7 := Lib.hid (WinM.drewN H5.out (m2 + m3))
  go_wp2_with fail
  have t1 := win_top g rb _ _ H7.out
  rw [e6, e7] at t1
  refine t1.mono ?_
  clear t1
  rintro e w' ⟨m4, rfl, rfl⟩
  have H8 := Lib.hid (WinM.drewN H5.out (m2 + m3 + m4))
  go_wp2_with fail
  refine (win_floor g rb _ _ H8.out).mono ?_
  rintro e w' ⟨rfl, rfl⟩
  go_wp2_with fail
  go_ret
  exact ⟨rfl, only_drewN K5.out _⟩
end Go.Proofs.Ythiiobhogkenhaa.Win
