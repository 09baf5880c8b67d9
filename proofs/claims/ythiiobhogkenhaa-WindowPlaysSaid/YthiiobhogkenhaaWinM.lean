/- The sliding window against the list of all that was taken: plain data, no program. -/
import Derived.Test.YthiiobhogkenhaaWinS
namespace Go.Proofs.Ythiiobhogkenhaa.Win
open Go.Proofs.Ythiiobhogkenhaa.K

structure M where
  floor : Nat
  width : Nat
  taken : List Nat

def bars (width c t : Nat) : Bool := t == c || (decide (c < t) && decide (width ≤ t - c))
def M.takes (m : M) (c : Nat) : Bool := decide (m.floor ≤ c) && m.taken.all fun t => !bars m.width c t
def M.mark (m : M) (c : Nat) : M := if m.takes c = true then { m with taken := m.taken ++ [c] } else m
def topOf : List Nat → Nat
  | [] => 0
  | t :: r => max t (topOf r)
def M.top (m : M) : Nat := topOf m.taken
def M.any (m : M) : Bool := !m.taken.isEmpty

theorem topOf_snoc (l : List Nat) (c : Nat) : topOf (l ++ [c]) = max (topOf l) c := by
  induction l with
  | nil => simp [topOf]
  | cons t r ih => simp only [List.cons_append, topOf, ih]; omega
theorem le_topOf {l : List Nat} {t : Nat} (h : t ∈ l) : t ≤ topOf l := by
  induction l with
  | nil => cases h
  | cons x r ih =>
    rcases List.mem_cons.1 h with rfl | h
    · simp only [topOf]; omega
    · have := ih h; simp only [topOf]; omega
theorem topOf_mem {l : List Nat} (h : l ≠ []) : topOf l ∈ l := by
  induction l with
  | nil => exact absurd rfl h
  | cons x r ih =>
    simp only [topOf]
    by_cases hr : r = []
    · subst hr; simp [topOf]
    · rcases Nat.le_total x (topOf r) with h1 | h1
      · rw [Nat.max_eq_right h1]; exact List.mem_cons_of_mem _ (ih hr)
      · rw [Nat.max_eq_left h1]; exact List.mem_cons_self

theorem M.takes_iff (m : M) (c : Nat) : m.takes c = true ↔ m.floor ≤ c ∧ ∀ t, t ∈ m.taken → t ≠ c ∧ (c < t → t - c < m.width) := by
  simp only [M.takes, bars, Bool.and_eq_true, decide_eq_true_eq, List.all_eq_true, Bool.not_eq_true', Bool.or_eq_false_iff, beq_eq_false_iff_ne, Bool.and_eq_false_iff, decide_eq_false_iff_not]
  constructor
  · rintro ⟨h1, h2⟩
    refine ⟨h1, fun t ht => ⟨(h2 t ht).1, fun hl => ?_⟩⟩
    rcases (h2 t ht).2 with h3 | h3 <;> omega
  · rintro ⟨h1, h2⟩
    refine ⟨h1, fun t ht => ⟨(h2 t ht).1, ?_⟩⟩
    have := (h2 t ht).2
    omega

def has (ring : List Nat) (width c : Nat) : Bool := (ring.getD (atI c width) 0).testBit (c % width % 64)

theorem place {width c d : Nat} (h : atI c width = atI d width) (h2 : c % width % 64 = d % width % 64) : c % width = d % width := by
  unfold atI at h; omega
theorem near {width c d : Nat} (_ : 0 < width) (h : c ≤ d) (h2 : d - c < width) (h3 : c % width = d % width) : c = d := by
  have h4 : (d - c) % width = 0 := Nat.sub_mod_eq_zero_of_mod_eq h3.symm
  rw [Nat.mod_eq_of_lt h2] at h4
  omega
theorem near2 {width c d t : Nat} (hw : 0 < width) (hc : c ≤ t) (hd : d ≤ t) (h2 : t - c < width) (h4 : t - d < width) (h3 : c % width = d % width) : c = d := by
  rcases Nat.le_total c d with h | h
  · exact near hw h (by omega) h3
  · exact (near hw h (by omega) h3.symm).symm

theorem and_pow (x i : Nat) : x &&& 2 ^ i = 0 ↔ x.testBit i = false := by
  constructor
  · intro h
    have h2 := congrArg (fun y => Nat.testBit y i) h
    simpa [Nat.testBit_and, Nat.testBit_two_pow] using h2
  · intro h
    apply Nat.eq_of_testBit_eq
    intro j
    rw [Nat.testBit_and, Nat.testBit_two_pow, Nat.zero_testBit]
    by_cases hj : i = j
    · subst hj; simp [h]
    · simp [hj]

theorem bit_has (s : S) (c : Nat) : s.bit c = !has s.ring s.width c := by
  unfold S.bit has band atB
  rw [Bool.eq_iff_iff]
  simp only [beq_iff_eq, Bool.not_eq_true']
  exact and_pow _ _

theorem has_clr {width c d : Nat} {r : List Nat} (hi : atI d width < r.length) (hx : ∀ x, x ∈ r → x < B64) :
    has (clr width d r) width c = (has r width c && decide (c % width ≠ d % width)) := by
  unfold has clr
  by_cases h : atI c width = atI d width
  · have hv := hx _ (getD_mem r _ hi)
    rw [h, List.getD_eq_getElem?_getD, List.getElem?_set_self hi, Option.getD_some]
    unfold bclr atB
    rw [Nat.testBit_and]
    have h64 : d % width % 64 < 64 := Nat.mod_lt _ (by omega)
    have hc64 : c % width % 64 < 64 := Nat.mod_lt _ (by omega)
    have hm : (18446744073709551615 - 2 ^ (d % width % 64)).testBit (c % width % 64) = decide (c % width % 64 ≠ d % width % 64) := by
      have h1 : 18446744073709551615 - 2 ^ (d % width % 64) = 2 ^ 64 - (2 ^ (d % width % 64) + 1) := by
        have : 2 ^ (d % width % 64) < 2 ^ 64 := Nat.pow_lt_pow_right (by omega) h64
        omega
      rw [h1, Nat.testBit_two_pow_sub_succ (Nat.pow_lt_pow_right (by omega) h64), Nat.testBit_two_pow]
      simp [hc64, eq_comm]
    rw [hm]
    congr 1
    rw [Bool.eq_iff_iff]
    simp only [decide_eq_true_eq]
    constructor
    · intro h1 h2; exact h1 (by rw [h2])
    · intro h1 h2; exact h1 (place h h2)
  · rw [List.getD_eq_getElem?_getD, List.getElem?_set_ne (Ne.symm h), ← List.getD_eq_getElem?_getD]
    have : c % width ≠ d % width := fun h2 => h (by unfold atI; rw [h2])
    simp [this]
theorem has_put {width c d : Nat} {r : List Nat} (hi : atI d width < r.length) :
    has (r.set (atI d width) (bor (r.getD (atI d width) 0) (atB d width))) width c = (has r width c || decide (c % width = d % width)) := by
  unfold has
  by_cases h : atI c width = atI d width
  · rw [h, List.getD_eq_getElem?_getD, List.getElem?_set_self hi, Option.getD_some]
    unfold bor atB
    rw [Nat.testBit_or, Nat.testBit_two_pow]
    congr 1
    rw [Bool.eq_iff_iff]
    simp only [decide_eq_true_eq]
    constructor
    · intro h1; exact place h h1.symm
    · intro h1; rw [h1]
  · rw [List.getD_eq_getElem?_getD, List.getElem?_set_ne (Ne.symm h), ← List.getD_eq_getElem?_getD]
    have : c % width ≠ d % width := fun h2 => h (by unfold atI; rw [h2])
    simp [this]
theorem has_zero (n width c : Nat) : has (List.replicate n 0) width c = false := by
  unfold has
  have : (List.replicate n 0).getD (atI c width) 0 = 0 := by
    rw [List.getD_eq_getElem?_getD, List.getElem?_replicate]; split <;> rfl
  rw [this]; simp
theorem has_clrs {width f : Nat} (n : Nat) {r : List Nat} (hi : ∀ d, atI d width < r.length) (hx : ∀ x, x ∈ r → x < B64) (c : Nat) :
    has (clrs width f n r) width c = (has r width c && decide (∀ k, k < n → c % width ≠ (f + k) % width)) ∧ ∀ x, x ∈ clrs width f n r → x < B64 := by
  induction n with
  | zero => exact ⟨by simp [clrs], hx⟩
  | succ n ih =>
    have hl : ∀ d, atI d width < (clrs width f n r).length := fun d => by rw [clrs_len]; exact hi d
    refine ⟨?_, clr_each ih.2 (hl _)⟩
    rw [clrs, has_clr (hl _) ih.2, ih.1, Bool.and_assoc]
    congr 1
    rw [Bool.eq_iff_iff]
    simp only [Bool.and_eq_true, decide_eq_true_eq]
    constructor
    · rintro ⟨h1, h2⟩ k hk
      rcases Nat.lt_or_ge k n with h | h
      · exact h1 k h
      · obtain rfl : k = n := by omega
        exact h2
    · intro h
      exact ⟨fun k hk => h k (by omega), h n (by omega)⟩

/-- the window's words say what was taken -/
structure Rep (s : S) (m : M) : Prop where
  ok : s.Ok
  floor : s.floor = m.floor
  width : s.width = m.width
  any : s.any = m.any
  top : s.top = m.top
  ring : s.any = true → ∀ c, c ≤ s.top → s.top - c < s.width → (has s.ring s.width c = true ↔ c ∈ m.taken)

theorem M.any_iff (m : M) : m.any = true ↔ m.taken ≠ [] := by
  unfold M.any; cases m.taken <;> simp
theorem M.any_false (m : M) : m.any = false ↔ m.taken = [] := by
  unfold M.any; cases m.taken <;> simp

theorem Rep.takes {s : S} {m : M} (h : Rep s m) (c : Nat) : s.takes c = m.takes c := by
  have hw := h.ok.w1
  rw [Bool.eq_iff_iff, M.takes_iff]
  unfold S.takes
  have hf := h.floor; have hwd := h.width; have ha := h.any; have ht := h.top
  by_cases h1 : c < s.floor
  · rw [if_pos h1]; constructor
    · intro h; cases h
    · rintro ⟨h2, _⟩; omega
  rw [if_neg h1]
  by_cases h2 : s.any = false ∨ s.top < c
  · rw [if_pos h2]
    refine ⟨fun _ => ⟨by omega, fun t hm => ?_⟩, fun _ => rfl⟩
    rcases h2 with h2 | h2
    · rw [ha, M.any_false] at h2; rw [h2] at hm; cases hm
    · have := le_topOf hm; rw [ht] at h2; unfold M.top at h2; omega
  rw [if_neg h2]
  have ha1 : s.any = true := by simpa using fun e => h2 (.inl e)
  have hm : m.top ∈ m.taken := topOf_mem (by rw [← M.any_iff, ← ha]; exact ha1)
  by_cases h3 : s.width ≤ s.top - c
  · rw [if_pos h3]; constructor
    · intro h; cases h
    · rintro ⟨_, h4⟩
      have := (h4 _ hm).2
      omega
  rw [if_neg h3, bit_has]
  have hr := h.ring ha1 c (by omega) (by omega)
  constructor
  · intro h4
    have h5 : has s.ring s.width c = false := by simpa using h4
    refine ⟨by omega, fun t hm2 => ⟨?_, fun hl => ?_⟩⟩
    · rintro rfl; rw [hr.2 hm2] at h5; cases h5
    · have := le_topOf hm2; unfold M.top at ht; omega
  · rintro ⟨_, h4⟩
    have : c ∉ m.taken := fun h5 => (h4 c h5).1 rfl
    rw [← hr] at this
    simpa using this

theorem Rep.new {floor width : Nat} (hf : floor < B64) (h1 : 64 ≤ width) (h2 : width ≤ 1024) (h3 : width % 64 = 0) : Rep (S.new floor width) ⟨floor, width, []⟩ :=
  ⟨S.Ok.new hf h1 h2 h3, rfl, rfl, rfl, rfl, fun h => by cases h⟩

theorem Rep.rise {s : S} {m : M} (h : Rep s m) {c : Nat} (hr : s.any = false ∨ s.top < c) :
    ∀ d, d ≤ c → c - d < s.width → (has (s.rise c).ring s.width d = true ↔ d ∈ m.taken) := by
  intro d hd hdw
  have hw := h.ok.w1
  have hi : ∀ e, atI e s.width < s.ring.length := h.ok.at_lt
  unfold S.rise
  by_cases h2 : s.any = false ∨ s.width ≤ c - s.top
  · simp only [if_pos h2, has_zero, Bool.false_eq_true, false_iff]
    intro hm
    rcases h2 with h2 | h2
    · rw [h.any, M.any_false] at h2; rw [h2] at hm; cases hm
    · have := le_topOf hm; have := h.top; unfold M.top at this; omega
  · simp only [if_neg h2]
    have ha1 : s.any = true := by simpa using fun e => h2 (.inl e)
    have htc : s.top < c := by rcases hr with hr | hr; exact absurd hr (by rw [ha1]; simp); exact hr
    have h3 : c - s.top < s.width := by omega
    rw [(has_clrs (c - s.top) hi h.ok.each d).1]
    simp only [Bool.and_eq_true, decide_eq_true_eq]
    by_cases hdt : d ≤ s.top
    · rw [h.ring ha1 d hdt (by omega)]
      refine ⟨fun h => h.1, fun hm => ⟨hm, fun k hk he => ?_⟩⟩
      have := near2 (by omega) (show d ≤ c by omega) (show s.top + 1 + k ≤ c by omega) hdw (by omega) he
      omega
    · constructor
      · rintro ⟨_, h5⟩
        exact absurd (by rw [show s.top + 1 + (d - s.top - 1) = d by omega]) (h5 (d - s.top - 1) (by omega))
      · intro hm
        have := le_topOf hm; have := h.top; unfold M.top at this; omega

theorem M.mark_top {m : M} {c : Nat} (ht : m.takes c = true) : (m.mark c).top = max m.top c ∧ (m.mark c).any = true ∧ (m.mark c).taken = m.taken ++ [c] := by
  have : m.mark c = { m with taken := m.taken ++ [c] } := by simp [M.mark, ht]
  rw [this]
  exact ⟨topOf_snoc _ _, by simp [M.any], rfl⟩

theorem Rep.mark {s : S} {m : M} (h : Rep s m) {c : Nat} (hc : c < B64) : Rep (s.mark c) (m.mark c) := by
  have ht := h.takes c
  by_cases hm : m.takes c = true
  · have hs : s.takes c = true := ht.trans hm
    obtain ⟨h1, h2, h3⟩ := M.mark_top hm
    have hw := h.ok.w1
    have hmf : (m.mark c).floor = m.floor ∧ (m.mark c).width = m.width := by simp [M.mark, hm]
    have ok : (s.mark c).Ok := h.ok.mark hc
    by_cases hr : s.any = false ∨ s.top < c
    · have e : s.mark c = (s.rise c).put c := by simp [S.mark, hs, hr]
      rw [e] at ok ⊢
      have hmax : max m.top c = c := by
        rcases hr with hr | hr
        · rw [h.any, M.any_false] at hr; simp [M.top, hr, topOf]
        · have := h.top; omega
      refine ⟨ok, h.floor.trans hmf.1.symm, h.width.trans hmf.2.symm, h2.symm, by rw [h1, hmax]; rfl, fun _ d hd hdw => ?_⟩
      rw [h3]
      have hi : atI c s.width < (s.rise c).ring.length := (h.ok.rise hc).at_lt c
      have hd' : d ≤ c := hd
      have hdw' : c - d < s.width := hdw
      show has ((s.rise c).ring.set (atI c s.width) (bor ((s.rise c).ring.getD (atI c s.width) 0) (atB c s.width))) s.width d = true ↔ _
      rw [has_put (c := d) hi]
      simp only [Bool.or_eq_true, decide_eq_true_eq, List.mem_append, List.mem_singleton]
      rw [h.rise hr d hd' hdw']
      constructor
      · rintro (h5 | h5)
        · exact .inl h5
        · exact .inr (near2 (by omega) hd' (Nat.le_refl c) hdw' (by omega) h5)
      · rintro (h5 | rfl)
        · exact .inl h5
        · exact .inr rfl
    · have e : s.mark c = s.put c := by simp [S.mark, hs, hr]
      rw [e] at ok ⊢
      have ha1 : s.any = true := by simpa using fun e => hr (.inl e)
      have hmax : max m.top c = m.top := by have := h.top; omega
      have hlt : s.top - c < s.width := by
        unfold S.takes at hs
        split at hs
        · cases hs
        · split at hs
          · cases hs
          · omega
      refine ⟨ok, h.floor.trans hmf.1.symm, h.width.trans hmf.2.symm, ha1.trans h2.symm, by rw [h1, hmax]; exact h.top, fun _ d hd hdw => ?_⟩
      rw [h3]
      have hd' : d ≤ s.top := hd
      have hdw' : s.top - d < s.width := hdw
      show has (s.ring.set (atI c s.width) _) s.width d = true ↔ _
      rw [has_put (h.ok.at_lt c)]
      simp only [Bool.or_eq_true, decide_eq_true_eq, List.mem_append, List.mem_singleton]
      rw [h.ring ha1 d hd' hdw']
      constructor
      · rintro (h5 | h5)
        · exact .inl h5
        · exact .inr (near2 (by omega) hd' (show c ≤ s.top by omega) hdw' hlt h5)
      · rintro (h5 | rfl)
        · exact .inl h5
        · exact .inr rfl
  · have hs : ¬ s.takes c = true := by rw [ht]; exact hm
    have e1 : s.mark c = s := by simp [S.mark, hs]
    have e2 : m.mark c = m := by simp [M.mark, hm]
    rw [e1, e2]; exact h
end Go.Proofs.Ythiiobhogkenhaa.Win
