/- The sliding window as plain data: what each call answers and leaves. No program here. -/
import Derived.Test.YthiiobhogkenhaaBase
namespace Go.Proofs.Ythiiobhogkenhaa.Win
open Go.Proofs.Ythiiobhogkenhaa.K

structure S where
  floor : Nat
  top : Nat
  any : Bool
  width : Nat
  ring : List Nat

def atI (c width : Nat) : Nat := c % width / 64
def atB (c width : Nat) : Nat := 2 ^ (c % width % 64)

structure S.Ok (s : S) : Prop where
  f : s.floor < B64
  t : s.top < B64
  w1 : 64 ≤ s.width
  w2 : s.width ≤ 1024
  w3 : s.width % 64 = 0
  len : s.ring.length = s.width / 64
  each : ∀ x, x ∈ s.ring → x < B64

def S.bit (s : S) (c : Nat) : Bool := band (s.ring.getD (atI c s.width) 0) (atB c s.width) == 0
def S.takes (s : S) (c : Nat) : Bool :=
  if c < s.floor then false else if s.any = false ∨ s.top < c then true else if s.width ≤ s.top - c then false else s.bit c
def clr (width c : Nat) (r : List Nat) : List Nat := r.set (atI c width) (bclr (r.getD (atI c width) 0) (atB c width))
def clrs (width from_ : Nat) : Nat → List Nat → List Nat
  | 0, r => r
  | k + 1, r => clr width (from_ + k) (clrs width from_ k r)
def S.rise (s : S) (c : Nat) : S :=
  { s with top := c, any := true, ring := if s.any = false ∨ s.width ≤ c - s.top then List.replicate s.ring.length 0 else clrs s.width (s.top + 1) (c - s.top) s.ring }
def S.put (s : S) (c : Nat) : S := { s with ring := s.ring.set (atI c s.width) (bor (s.ring.getD (atI c s.width) 0) (atB c s.width)) }
def S.mark (s : S) (c : Nat) : S := if s.takes c = true then (if s.any = false ∨ s.top < c then s.rise c else s).put c else s
def S.new (floor width : Nat) : S := { floor, top := 0, any := false, width, ring := List.replicate (width / 64) 0 }

theorem getD_mem (l : List Nat) (i : Nat) (h : i < l.length) : l.getD i 0 ∈ l := by
  simp only [List.getD_eq_getElem?_getD, List.getElem?_eq_getElem h, Option.getD_some]; exact List.getElem_mem h
theorem mem_set {l : List Nat} {i x y : Nat} (h : y ∈ l.set i x) : y ∈ l ∨ y = x := List.mem_or_eq_of_mem_set h
theorem atB_lt (c width : Nat) : atB c width < B64 := by
  unfold atB B64; have : c % width % 64 < 64 := Nat.mod_lt _ (by omega); exact Nat.pow_lt_pow_right (by omega) this
theorem S.Ok.at_lt {s : S} (h : s.Ok) (c : Nat) : atI c s.width < s.ring.length := by
  have h1 := h.w1; have h3 := h.w3
  rw [h.len]; unfold atI
  have : c % s.width < s.width := Nat.mod_lt _ (by omega)
  omega
theorem S.Ok.get_lt {s : S} (h : s.Ok) (c : Nat) : s.ring.getD (atI c s.width) 0 < B64 := h.each _ (getD_mem _ _ (h.at_lt c))
theorem clr_len (width c : Nat) (r : List Nat) : (clr width c r).length = r.length := by simp [clr]
theorem clrs_len (width f n : Nat) (r : List Nat) : (clrs width f n r).length = r.length := by
  induction n with
  | zero => rfl
  | succ n ih => simp only [clrs, clr_len, ih]
theorem clr_each {width c : Nat} {r : List Nat} (h : ∀ x, x ∈ r → x < B64) (hi : atI c width < r.length) : ∀ x, x ∈ clr width c r → x < B64 := by
  intro x hx
  rcases mem_set hx with h1 | rfl
  · exact h x h1
  · exact bclr_lt (h _ (getD_mem _ _ hi))
theorem atI_lt {c width n : Nat} (h1 : 64 ≤ width) (h3 : width % 64 = 0) (hn : n = width / 64) : atI c width < n := by
  unfold atI
  have : c % width < width := Nat.mod_lt _ (by omega)
  omega
theorem S.Ok.clrs {s : S} (h : s.Ok) (f n : Nat) : S.Ok { s with ring := clrs s.width f n s.ring } := by
  induction n with
  | zero => exact h
  | succ n ih =>
    exact ⟨h.f, h.t, h.w1, h.w2, h.w3, by simp only [Win.clrs, clr_len, clrs_len]; exact h.len, clr_each ih.each (ih.at_lt _)⟩
theorem S.Ok.rise {s : S} (h : s.Ok) {c : Nat} (hc : c < B64) : (s.rise c).Ok := by
  refine ⟨h.f, hc, h.w1, h.w2, h.w3, ?_, ?_⟩
  · simp only [S.rise]; split
    · rw [List.length_replicate]; exact h.len
    · rw [clrs_len]; exact h.len
  · simp only [S.rise]; split
    · intro x hx; rw [List.mem_replicate] at hx; rw [hx.2]; unfold B64; omega
    · exact (h.clrs _ _).each
theorem S.Ok.put {s : S} (h : s.Ok) (c : Nat) : (s.put c).Ok := by
  refine ⟨h.f, h.t, h.w1, h.w2, h.w3, by simp only [S.put, List.length_set]; exact h.len, ?_⟩
  intro x hx
  rcases mem_set hx with h1 | rfl
  · exact h.each x h1
  · exact bor_lt (h.get_lt c) (atB_lt _ _)
theorem S.Ok.mark {s : S} (h : s.Ok) {c : Nat} (hc : c < B64) : (s.mark c).Ok := by
  unfold S.mark; split
  · split
    · exact (h.rise hc).put c
    · exact h.put c
  · exact h
theorem S.Ok.new {floor width : Nat} (hf : floor < B64) (h1 : 64 ≤ width) (h2 : width ≤ 1024) (h3 : width % 64 = 0) : (S.new floor width).Ok :=
  ⟨hf, by unfold S.new B64; simp, h1, h2, h3, by simp [S.new], by intro x hx; simp only [S.new, List.mem_replicate] at hx; rw [hx.2]; unfold B64; omega⟩
end Go.Proofs.Ythiiobhogkenhaa.Win
