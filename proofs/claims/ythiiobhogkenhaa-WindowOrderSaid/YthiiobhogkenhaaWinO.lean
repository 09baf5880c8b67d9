/- An order that is disturbed within blocks of 32: plain facts. -/
import Derived.Test.YthiiobhogkenhaaWinP
namespace Go.Proofs.Ythiiobhogkenhaa.Win
open Go.Proofs.Ythiiobhogkenhaa.K

theorem tmod32 (z : Int) : -31 ≤ z.tmod 32 ∧ z.tmod 32 ≤ 31 := by
  rcases Int.le_total 0 z with h | h
  · rw [Int.tmod_eq_emod_of_nonneg h]; omega
  · have h2 : z.tmod 32 = -((-z).tmod 32) := by rw [Int.neg_tmod, Int.neg_neg]
    rw [h2, Int.tmod_eq_emod_of_nonneg (by omega)]; omega
theorem tdiv32 (z : Int) (h1 : -9223372036854775808 ≤ z) (h2 : z ≤ 9223372036854775807) : -288230376151711744 ≤ z.tdiv 32 ∧ z.tdiv 32 ≤ 288230376151711743 := by
  rcases Int.le_total 0 z with h | h
  · rw [Int.tdiv_eq_ediv_of_nonneg h]; omega
  · have h2 : z.tdiv 32 = -((-z).tdiv 32) := by rw [Int.neg_tdiv, Int.neg_neg]
    rw [h2, Int.tdiv_eq_ediv_of_nonneg (by omega)]; omega
structure Good (f n : Nat) (L : List Nat) : Prop where
  len : L.length = n
  near : ∀ p, p < n → ∃ q, q < n ∧ L.getD p 0 = f + q ∧ q / 32 = p / 32
  inj : ∀ p q, p < n → q < n → L.getD p 0 = L.getD q 0 → p = q
  sur : ∀ q, q < n → ∃ p, p < n ∧ L.getD p 0 = f + q
def ups (f n : Nat) : List Nat := (List.range n).map (f + ·)
theorem ups_get {f n p : Nat} (h : p < n) : (ups f n).getD p 0 = f + p := by simp [ups, h]
theorem ups_snoc (f n : Nat) : ups f (n + 1) = ups f n ++ [f + n] := by simp [ups, List.range_succ]
theorem good_ups (f n : Nat) : Good f n (ups f n) :=
  ⟨by simp [ups], fun p hp => ⟨p, hp, ups_get hp, rfl⟩, fun p q hp hq h => by rw [ups_get hp, ups_get hq] at h; omega, fun q hq => ⟨q, hq, ups_get hq⟩⟩
def swp (a b p : Nat) : Nat := if p = b then a else if p = a then b else p
def swap (L : List Nat) (a b : Nat) : List Nat := (L.set a (L.getD b 0)).set b (L.getD a 0)
theorem swp_lt {a b p n : Nat} (ha : a < n) (hb : b < n) (hp : p < n) : swp a b p < n := by unfold swp; split <;> (try split) <;> assumption
theorem swp_swp (a b p : Nat) : swp a b (swp a b p) = p := by
  unfold swp
  by_cases h1 : p = b
  · subst h1; by_cases h2 : a = p <;> simp [h2]
  · by_cases h2 : p = a
    · subst h2; simp [h1]
    · simp [h1, h2]
theorem swap_get {L : List Nat} {a b p : Nat} (ha : a < L.length) (hb : b < L.length) : (swap L a b).getD p 0 = L.getD (swp a b p) 0 := by
  unfold swap swp
  by_cases h1 : p = b
  · subst h1; simp [hb]
  · by_cases h2 : p = a
    · subst h2
      simp only [List.getD_eq_getElem?_getD, if_neg h1, if_true]
      rw [List.getElem?_set_ne (by omega), List.getElem?_set_self ha]
      rfl
    · simp only [List.getD_eq_getElem?_getD, if_neg h1, if_neg h2]
      rw [List.getElem?_set_ne (by omega), List.getElem?_set_ne (by omega)]
theorem good_swap {f n a b : Nat} {L : List Nat} (h : Good f n L) (ha : a < n) (hb : b < n) (hab : a / 32 = b / 32) : Good f n (swap L a b) := by
  have hl := h.len
  have hg : ∀ p, (swap L a b).getD p 0 = L.getD (swp a b p) 0 := fun p => swap_get (by omega) (by omega)
  refine ⟨by unfold swap; rw [List.length_set, List.length_set]; exact hl, fun p hp => ?_, fun p q hp hq he => ?_, fun q hq => ?_⟩
  · obtain ⟨q, h1, h2, h3⟩ := h.near (swp a b p) (swp_lt ha hb hp)
    refine ⟨q, h1, (hg p).trans h2, h3.trans ?_⟩
    unfold swp; split
    · subst p; exact hab
    · split
      · subst p; exact hab.symm
      · rfl
  · rw [hg, hg] at he
    have := h.inj _ _ (swp_lt ha hb hp) (swp_lt ha hb hq) he
    rw [← swp_swp a b p, this, swp_swp]
  · obtain ⟨p, h1, h2⟩ := h.sur q hq
    refine ⟨swp a b p, swp_lt ha hb h1, ?_⟩
    rw [hg, swp_swp]; exact h2
theorem mem_take_get {L : List Nat} {j t : Nat} (h : t ∈ L.take j) : ∃ p, p < j ∧ p < L.length ∧ L.getD p 0 = t := by
  obtain ⟨p, hp, he⟩ := List.mem_iff_getElem.1 h
  rw [List.length_take] at hp
  refine ⟨p, by omega, by omega, ?_⟩
  rw [← he]; simp [show p < L.length by omega]
theorem good_takes {f n w j : Nat} {L : List Nat} (h : Good f n L) (hj : j < n) (hw : 64 ≤ w) : M.takes ⟨f, w, L.take j⟩ (L.getD j 0) = true := by
  rw [M.takes_iff]
  obtain ⟨q, hq, hv, hd⟩ := h.near j hj
  refine ⟨by show f ≤ _; omega, fun t ht => ?_⟩
  obtain ⟨p, hp1, hp2, rfl⟩ := mem_take_get (show t ∈ L.take j from ht)
  have hpn : p < n := by omega
  obtain ⟨q2, hq2, hv2, hd2⟩ := h.near p hpn
  refine ⟨fun e => ?_, fun _ => ?_⟩
  · have := h.inj p j hpn hj e; omega
  · show _ < w
    rw [hv, hv2]
    have : p / 32 ≤ j / 32 := Nat.div_le_div_right (by omega)
    omega
theorem good_mark {f n w j : Nat} {L : List Nat} (h : Good f n L) (hj : j < n) (hw : 64 ≤ w) : M.mark ⟨f, w, L.take j⟩ (L.getD j 0) = ⟨f, w, L.take (j + 1)⟩ := by
  rw [mark_yes (good_takes h hj hw)]
  have := h.len
  rw [List.take_succ_eq_append_getElem (show j < L.length by omega)]
  simp [show j < L.length by omega]
theorem good_all {f n w q : Nat} {L : List Nat} (h : Good f n L) (hq : q < n) : M.takes ⟨f, w, L.take n⟩ (f + q) = false := by
  obtain ⟨p, hp, hv⟩ := h.sur q hq
  rw [takes_false]
  intro h2
  have hl := h.len
  have hm : L.getD p 0 ∈ L.take n := by rw [List.take_of_length_le (by omega)]; exact getD_mem _ _ (by omega)
  exact (h2.2 _ hm).1 hv
theorem good_lt {f n j : Nat} {L : List Nat} (h : Good f n L) (hj : j < n) (hn : n ≤ 600) (hf : f ≤ 18446744073709551014) : L.getD j 0 < 18446744073709551616 := by
  obtain ⟨q, hq, hv, _⟩ := h.near j hj
  omega
end Go.Proofs.Ythiiobhogkenhaa.Win
