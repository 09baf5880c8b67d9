/- The list of what was taken: plain facts for the laws of the window; and a window that a law made. -/
import Derived.Test.YthiiobhogkenhaaWinC
namespace Go.Proofs.Ythiiobhogkenhaa.Win
open Go.RowKit Go.Proofs.Ythiiobhogkenhaa.K
set_option linter.unusedVariables false
theorem below_drewN {B : Nat} {w W : World} (h : Below B w W) (n : Nat) : Below B w (W.drewN n) := ⟨h.os, h.tape, h.output, h.size, h.block⟩
theorem WinM.top_lt {w : World} {g rb : Nat} {m : M} (h : WinM w g rb m) : m.top < 18446744073709551616 := by
  obtain ⟨s, a, b⟩ := h
  have := a.ok.t
  unfold B64 at this
  rw [← b.top]; exact this
/-- a law's own window -/
structure StW (w wr : World) (g rb : Nat) (m : M) : Prop where
  win : WinM wr g rb m
  below : Below w.heap.size w wr
  hg : w.heap.size ≤ g
  hr : w.heap.size ≤ rb
theorem StW.mk' {w w1 w2 : World} {g rb : Nat} {m : M} (hw : WinM w2 g rb m) (h1 : Only w w1 (fun _ => False)) (h2 : Only w1 w2 (fun _ => False)) (hg : w1.heap.size ≤ g) (hr : w1.heap.size ≤ rb) : StW w w2 g rb m :=
  ⟨hw, (h1.then_ h2 (fun i hi => .inl hi)).below (fun _ h => h.elim) (Nat.le_refl _), Nat.le_trans h1.size hg, Nat.le_trans h1.size hr⟩
theorem StW.drewN {w wr : World} {g rb : Nat} {m : M} (h : StW w wr g rb m) (n : Nat) : StW w (wr.drewN n) g rb m := ⟨h.win.drewN n, below_drewN h.below n, h.hg, h.hr⟩
theorem StW.mark {w wr w2 : World} {g rb : Nat} {m m2 : M} (h : StW w wr g rb m) (hw : WinM w2 g rb m2) (ho : Only wr w2 (fun k => k = g ∨ k = rb)) : StW w w2 g rb m2 :=
  ⟨hw, Below.then_only h.below ho (Nat.le_refl _) (fun k hk => by rcases hk with rfl | rfl; exact h.hg; exact h.hr), h.hg, h.hr⟩

theorem takes_false {m : M} {c : Nat} : m.takes c = false ↔ ¬ (m.floor ≤ c ∧ ∀ t, t ∈ m.taken → t ≠ c ∧ (c < t → t - c < m.width)) := by
  rw [← M.takes_iff]; simp
theorem mark_floor (m : M) (c : Nat) : (m.mark c).floor = m.floor ∧ (m.mark c).width = m.width := by unfold M.mark; split <;> exact ⟨rfl, rfl⟩
theorem mark_mem {m : M} {c t : Nat} (h : t ∈ (m.mark c).taken) : t ∈ m.taken ∨ t = c := by
  unfold M.mark at h; split at h
  · rcases List.mem_append.1 h with h | h
    · exact .inl h
    · exact .inr (List.mem_singleton.1 h)
  · exact .inl h
theorem takes_self (m : M) (c : Nat) : (m.mark c).takes c = false := by
  by_cases h : m.takes c = true
  · rw [takes_false]
    intro h2
    have h3 := (M.mark_top h).2.2
    exact (h2.2 c (by rw [h3]; simp)).1 rfl
  · have h0 : m.takes c = false := by simpa using h
    have : m.mark c = m := by simp [M.mark, h0]
    rw [this]; exact h0
theorem reach_cases {m : M} {c : Nat} (h : c ∉ m.taken) :
    (m.any = false ∧ m.takes c = decide (m.floor ≤ c)) ∨ (m.any = true ∧ ¬ c < m.top ∧ m.takes c = decide (m.floor ≤ c)) ∨ (m.any = true ∧ c < m.top ∧ decide ((m.width : Int) ≤ m.top - c) = false ∧ m.takes c = decide (m.floor ≤ c)) ∨ (m.any = true ∧ c < m.top ∧ decide ((m.width : Int) ≤ m.top - c) = true ∧ m.takes c = false) := by
  have key : (∀ t, t ∈ m.taken → c < t → t - c < m.width) → m.takes c = decide (m.floor ≤ c) := fun hk => by
    rw [Bool.eq_iff_iff, M.takes_iff, decide_eq_true_eq]
    exact ⟨fun h => h.1, fun h2 => ⟨h2, fun t ht => ⟨fun e => h (e ▸ ht), hk t ht⟩⟩⟩
  by_cases ha : m.any = false
  · exact .inl ⟨ha, key (fun t ht => by rw [M.any_false] at ha; rw [ha] at ht; cases ht)⟩
  have ha1 : m.any = true := by simpa using ha
  by_cases h1 : c < m.top
  · by_cases h2 : (m.width : Int) ≤ m.top - c
    · refine .inr (.inr (.inr ⟨ha1, h1, decide_eq_true h2, ?_⟩))
      rw [takes_false]
      intro h3
      have := (h3.2 m.top (topOf_mem ((M.any_iff m).1 ha1))).2 h1
      omega
    · exact .inr (.inr (.inl ⟨ha1, h1, decide_eq_false h2, key (fun t ht hl => by have : t ≤ m.top := le_topOf ht; omega)⟩))
  · exact .inr (.inl ⟨ha1, h1, key (fun t ht hl => by have : t ≤ m.top := le_topOf ht; omega)⟩)
theorem win_mark_int (g rb : Nat) (m : M) (c : Nat) (x : Int) (w : World) (hW : WinM w g rb m) (hx : x = c) (hc : c < 18446744073709551616) :
    Calls Try.prog 20 #[.pointer (some ⟨g, 0, none⟩), .int .u64 x] w (MarkM w g rb (m.takes c) (m.mark c)) := by
  subst hx; exact win_mark g rb m c w hW hc
theorem win_takes_int (g rb : Nat) (m : M) (c : Nat) (x : Int) (w : World) (hW : WinM w g rb m) (hx : x = c) (hc : c < 18446744073709551616) :
    Calls Try.prog 17 #[.pointer (some ⟨g, 0, none⟩), .int .u64 x] w (Quiet (.bool (m.takes c)) w) := by
  subst hx; exact win_takes g rb m c w hW hc
theorem mark_yes {m : M} {c : Nat} (h : m.takes c = true) : m.mark c = { m with taken := m.taken ++ [c] } := by simp [M.mark, h]
theorem mark_no {m : M} {c : Nat} (h : m.takes c = false) : m.mark c = m := by simp [M.mark, h]

theorem win_new_int (floor width : Nat) (y x : Int) (w : World) (hy : y = floor) (hx : x = width) (hf : floor < 18446744073709551616) (h : mayB x = true) :
    Calls Try.prog 15 #[.int .u64 y, .int .i64 x] w (NewM w floor width) := by
  subst hy; exact win_new floor width x w hx hf h
theorem new_no_int (floor : Nat) (y width : Int) (w : World) (hy : y = floor) (hf : floor < 18446744073709551616) (h : mayB width = false) :
    Calls Try.prog 15 #[.int .u64 y, .int .i64 width] w fun e w' => e = .returned (.pointer none) ∧ w = w' := by
  subst hy; exact new_no floor width w hf h
/-! a leap -/
structure FarI (f n first T d : Nat) (m : M) : Prop where
  fl : m.floor = f
  wd : m.width = n
  i1 : first ∈ m.taken
  i2 : T ∈ m.taken
  all : ∀ t, t ∈ m.taken → t = first ∨ t = T ∨ (T < t + d ∧ t < T)
theorem far_takes {f n first T d : Nat} {m : M} (h : FarI f n first T d m) (hd : 1 ≤ d) (hdT : d ≤ T) (hf : first < T) : m.takes (T - d) = (decide (f ≤ T - d) && (decide (T - d ≠ first) && decide (d < n))) := by
  rw [Bool.eq_iff_iff, M.takes_iff]
  simp only [Bool.and_eq_true, decide_eq_true_eq]
  rw [h.fl, h.wd]
  constructor
  · rintro ⟨h1, h2⟩
    refine ⟨h1, fun e => (h2 first h.i1).1 e.symm, ?_⟩
    have := (h2 T h.i2).2 (by omega)
    omega
  · rintro ⟨h1, h2, h3⟩
    refine ⟨h1, fun t ht => ?_⟩
    rcases h.all t ht with rfl | rfl | h4
    · exact ⟨fun e => h2 e.symm, fun _ => by omega⟩
    · exact ⟨by omega, fun _ => by omega⟩
    · exact ⟨by omega, fun _ => by omega⟩
theorem far_step {f n first T d : Nat} {m : M} (h : FarI f n first T d m) (hd : 1 ≤ d) (hdT : d ≤ T) : FarI f n first T (d + 1) (m.mark (T - d)) := by
  refine ⟨(mark_floor m _).1.trans h.fl, (mark_floor m _).2.trans h.wd, ?_, ?_, fun t ht => ?_⟩
  · unfold M.mark; split
    · exact List.mem_append.2 (.inl h.i1)
    · exact h.i1
  · unfold M.mark; split
    · exact List.mem_append.2 (.inl h.i2)
    · exact h.i2
  · rcases mark_mem ht with h1 | h1
    · rcases h.all t h1 with h2 | h2 | h2
      · exact .inl h2
      · exact .inr (.inl h2)
      · exact .inr (.inr ⟨by omega, h2.2⟩)
    · exact .inr (.inr ⟨by omega, by omega⟩)
theorem far_first {f n first : Nat} (h : f ≤ first) : (M.takes ⟨f, n, []⟩ first = true) := by rw [M.takes_iff]; exact ⟨h, fun t ht => by cases ht⟩
theorem far_second {f n first T : Nat} (h : f ≤ first) (h2 : first < T) : (M.takes ⟨f, n, [first]⟩ T = true) := by
  rw [M.takes_iff]
  refine ⟨by show f ≤ T; omega, fun t ht => ?_⟩
  have : t = first := List.mem_singleton.1 ht
  exact ⟨by omega, fun h3 => by omega⟩
theorem far_start {f n first T : Nat} : FarI f n first T 1 ⟨f, n, [first, T]⟩ :=
  ⟨rfl, rfl, by simp, by simp, fun t ht => by
    simp only [List.mem_cons, List.not_mem_nil, or_false] at ht
    rcases ht with h | h
    · exact .inl h
    · exact .inr (.inl h)⟩

/-! the same, higher by some number -/
def M.up (m : M) (by_ : Nat) : M := ⟨m.floor + by_, m.width, m.taken.map (· + by_)⟩
theorem up_takes (m : M) (y c : Nat) : (m.up y).takes (c + y) = m.takes c := by
  rw [Bool.eq_iff_iff, M.takes_iff, M.takes_iff]
  constructor
  · rintro ⟨h1, h2⟩
    refine ⟨by have : m.floor + y ≤ c + y := h1; omega, fun t ht => ?_⟩
    have h3 : t + y ≠ c + y ∧ (c + y < t + y → t + y - (c + y) < m.width) := h2 (t + y) (List.mem_map.2 ⟨t, ht, rfl⟩)
    exact ⟨fun e => h3.1 (by rw [e]), fun hl => by have := h3.2 (by omega); omega⟩
  · rintro ⟨h1, h2⟩
    refine ⟨by show m.floor + y ≤ c + y; omega, fun t ht => ?_⟩
    obtain ⟨t0, ht0, rfl⟩ := List.mem_map.1 ht
    have h3 := h2 t0 ht0
    refine ⟨fun e => h3.1 (by omega), fun hl => ?_⟩
    show t0 + y - (c + y) < m.width
    have := h3.2 (by omega)
    omega
theorem up_mark (m : M) (y c : Nat) : (m.up y).mark (c + y) = (m.mark c).up y := by
  unfold M.mark
  rw [up_takes]
  split
  · simp [M.up]
  · rfl
theorem up_any (m : M) (y : Nat) : (m.up y).any = m.any := by unfold M.any M.up; cases m.taken <;> rfl
theorem up_top (m : M) (y : Nat) (h : m.any = true) : (m.up y).top = m.top + y := by
  have key : ∀ l : List Nat, l ≠ [] → topOf (l.map (· + y)) = topOf l + y := by
    intro l
    induction l with
    | nil => intro h; exact absurd rfl h
    | cons t r ih =>
      intro _
      by_cases hr : r = []
      · subst hr; simp [topOf]
      · simp only [List.map_cons, topOf, ih hr]; omega
  exact key m.taken ((M.any_iff m).1 h)

/-- two windows of a law's own -/
structure St2 (w wr : World) (g rb g2 rb2 : Nat) (m m2 : M) : Prop where
  a : StW w wr g rb m
  b : StW w wr g2 rb2 m2
  ne : g ≠ g2 ∧ g ≠ rb2 ∧ rb ≠ g2 ∧ rb ≠ rb2
theorem St2.drewN {w wr : World} {g rb g2 rb2 : Nat} {m m2 : M} (h : St2 w wr g rb g2 rb2 m m2) (n : Nat) : St2 w (wr.drewN n) g rb g2 rb2 m m2 := ⟨h.a.drewN n, h.b.drewN n, h.ne⟩
theorem St2.markA {w wr w2 : World} {g rb g2 rb2 : Nat} {m m2 ma : M} (h : St2 w wr g rb g2 rb2 m m2) (hw : WinM w2 g rb ma) (ho : Only wr w2 (fun k => k = g ∨ k = rb)) : St2 w w2 g rb g2 rb2 ma m2 :=
  have h1 := h.a.mark hw ho
  ⟨h1, ⟨h.b.win.only ho (fun e => e.elim (fun e => h.ne.1 e.symm) (fun e => h.ne.2.2.1 e.symm)) (fun e => e.elim (fun e => h.ne.2.1 e.symm) (fun e => h.ne.2.2.2 e.symm)), h1.below, h.b.hg, h.b.hr⟩, h.ne⟩
theorem St2.markB {w wr w2 : World} {g rb g2 rb2 : Nat} {m m2 mb : M} (h : St2 w wr g rb g2 rb2 m m2) (hw : WinM w2 g2 rb2 mb) (ho : Only wr w2 (fun k => k = g2 ∨ k = rb2)) : St2 w w2 g rb g2 rb2 m mb :=
  have h1 := h.b.mark hw ho
  ⟨⟨h.a.win.only ho (fun e => e.elim h.ne.1 h.ne.2.1) (fun e => e.elim h.ne.2.2.1 h.ne.2.2.2), h1.below, h.a.hg, h.a.hr⟩, h1, h.ne⟩
theorem St2.mk' {w w1 w2 : World} {g rb g2 rb2 : Nat} {m m2 : M} (h : StW w w1 g rb m) (hw : WinM w2 g2 rb2 m2) (ho : Only w1 w2 (fun _ => False)) (hg : w1.heap.size ≤ g2) (hr : w1.heap.size ≤ rb2) : St2 w w2 g rb g2 rb2 m m2 :=
  have hb := Below.then_only h.below ho (Nat.le_refl _) (fun _ h => h.elim)
  have hl := h.win.lt
  have hz := h.below.size
  ⟨⟨h.win.only ho (fun h => h) (fun h => h), hb, h.hg, h.hr⟩, ⟨hw, hb, by omega, by omega⟩, by omega, by omega, by omega, by omega⟩
end Go.Proofs.Ythiiobhogkenhaa.Win
