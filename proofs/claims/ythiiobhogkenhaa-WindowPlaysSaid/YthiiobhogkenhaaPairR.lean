/- Many pairs beside one another; begin; plays of any kind. -/
import Derived.Test.YthiiobhogkenhaaPairW
namespace Go.Proofs.Ythiiobhogkenhaa.Win
open Go.RowKit Go.Proofs.Ythiiobhogkenhaa.K
set_option linter.unusedVariables false

/-- a pair, maybe of nils -/
structure PS where
  on : Bool
  p : Nat
  g : Nat
  rb : Nat
  rg : Nat
  v : Value
  m : M
def PS.live (s : PS) (w : World) : Prop :=
  if s.on = true then Live w s.p s.g s.rb s.rg s.v s.m else w.heap[s.p]? = some (.cells #[.pointer none, .pointer none] 33 (0, 0))
def PS.foot (s : PS) (k : Nat) : Prop := s.on = true ∧ Win.foot s.g s.rb s.rg s.v k
def PS.full (s : PS) (k : Nat) : Prop := k = s.p ∨ s.foot k
theorem PS.lt {s : PS} {w : World} (h : s.live w) {k : Nat} (hk : s.full k) : k < w.heap.size := by
  unfold PS.live at h
  rcases hk with rfl | ⟨ho, hk⟩
  · split at h
    · exact blk_lt h.b
    · exact blk_lt h
  · rw [if_pos ho] at h
    have hl := h.win.lt
    rcases hk with rfl | rfl | rfl | hk
    · exact hl.1
    · exact hl.2.1
    · exact blk_lt h.ref.b
    · obtain ⟨cs, hcs⟩ := own_blk h.ref.own hk
      exact blk_lt hcs
theorem PS.only {s : PS} {w w' : World} {T : Nat → Prop} (h : s.live w) (k : Only w w' T) (hn : ∀ i, s.full i → ¬ T i) : s.live w' := by
  unfold PS.live at h ⊢
  split at h
  · rename_i ho
    rw [if_pos ho]
    exact h.only k (hn _ (.inl rfl)) (fun i hi => hn i (.inr ⟨ho, hi⟩))
  · rename_i ho
    rw [if_neg ho]
    exact k.blk h (hn _ (.inl rfl))
theorem PS.drewN {s : PS} {w : World} (h : s.live w) (n : Nat) : s.live (w.drewN n) := PS.only (T := fun _ => False) h ((Only.refl w _).drewN n) (fun _ _ h => h)

/-- n pairs of a law's own, none sharing a block with another -/
structure Rows (w wr : World) (n : Nat) (s : Nat → PS) : Prop where
  live : ∀ i, i < n → (s i).live wr
  apart : ∀ i j, i < n → j < n → i ≠ j → ∀ k, (s i).full k → ¬ (s j).full k
  below : Below w.heap.size w wr
  new : ∀ i, i < n → ∀ k, (s i).full k → w.heap.size ≤ k
theorem Rows.drewN {w wr : World} {n : Nat} {s : Nat → PS} (h : Rows w wr n s) (q : Nat) : Rows w (wr.drewN q) n s := ⟨fun i hi => PS.drewN (h.live i hi) q, h.apart, below_drewN h.below q, h.new⟩
/-- some call wrote what lies in no pair -/
theorem Rows.only {w wr w2 : World} {n : Nat} {s : Nat → PS} {T : Nat → Prop} (h : Rows w wr n s) (k : Only wr w2 T) (hn : ∀ i, i < n → ∀ j, (s i).full j → ¬ T j) (hT : ∀ j, T j → w.heap.size ≤ j) : Rows w w2 n s :=
  ⟨fun i hi => PS.only (h.live i hi) k (hn i hi), h.apart, Below.then_only h.below k (Nat.le_refl _) hT, h.new⟩
/-- a pair more -/
theorem Rows.push {w wr w2 : World} {n : Nat} {s : Nat → PS} {a : PS} (h : Rows w wr n s) (k : Only wr w2 (fun _ => False)) (ha : a.live w2) (hnew : ∀ j, a.full j → wr.heap.size ≤ j) : Rows w w2 (n + 1) (fun i => if i = n then a else s i) := by
  have h2 := h.only k (fun _ _ _ _ h => h) (fun _ h => h.elim)
  have hz := h.below.size
  refine ⟨fun i hi => ?_, fun i j hi hj hne q => ?_, h2.below, fun i hi q => ?_⟩
  · show PS.live (if i = n then a else s i) w2
    split
    · exact ha
    · exact h2.live i (by omega)
  · show PS.full (if i = n then a else s i) q → ¬ PS.full (if j = n then a else s j) q
    split
    · rw [if_neg (by omega)]
      intro h3 h4
      have := hnew q h3
      have := PS.lt (h.live j (by omega)) h4
      omega
    · split
      · intro h3 h4
        have := hnew q h4
        have := PS.lt (h.live i (by omega)) h3
        omega
      · exact h.apart i j (by omega) (by omega) hne q
  · show PS.full (if i = n then a else s i) q → _
    split
    · intro h3; have := hnew q h3; omega
    · exact h.new i (by omega) q
/-- a pair has played -/
theorem Rows.step {w wr w2 : World} {n i : Nat} {s : Nat → PS} {m' : M} {v' : Value} (h : Rows w wr n s) (hi : i < n) (ho : (s i).on = true) (hl : Live w2 (s i).p (s i).g (s i).rb (s i).rg v' m') (k : Only wr w2 (Win.foot (s i).g (s i).rb (s i).rg (s i).v))
    (hat : v'.ownBlock = (s i).v.ownBlock ∨ ∃ b, v'.ownBlock = some b ∧ wr.heap.size ≤ b) : Rows w w2 n (fun j => if j = i then { s i with v := v', m := m' } else s j) := by
  have hz := h.below.size
  have hself : ∀ q, PS.full { s i with v := v', m := m' } q → (s i).full q ∨ wr.heap.size ≤ q := by
    intro q hq
    rcases hq with hq | ⟨_, hq⟩
    · exact .inl (.inl hq)
    · rcases hq with hq | hq | hq | hq
      · exact .inl (.inr ⟨ho, .inl hq⟩)
      · exact .inl (.inr ⟨ho, .inr (.inl hq)⟩)
      · exact .inl (.inr ⟨ho, .inr (.inr (.inl hq))⟩)
      · rcases hat with hat | ⟨b, hat, hb⟩
        · exact .inl (.inr ⟨ho, .inr (.inr (.inr (hat ▸ hq)))⟩)
        · have hq2 : v'.ownBlock = some q := hq
          rw [hat] at hq2; injection hq2 with hq2; exact .inr (by omega)
  refine ⟨fun j hj => ?_, fun a b ha hb hne q => ?_, Below.then_only h.below k (Nat.le_refl _) (fun q hq => h.new i hi q (.inr ⟨ho, hq⟩)), fun j hj q => ?_⟩
  · show PS.live (if j = i then { s i with v := v', m := m' } else s j) w2
    split
    · unfold PS.live; rw [if_pos ho]; exact hl
    · rename_i hji
      exact PS.only (h.live j hj) k (fun q hq hq2 => h.apart j i hj hi hji q hq (.inr ⟨ho, hq2⟩))
  · show PS.full (if a = i then { s i with v := v', m := m' } else s a) q → ¬ PS.full (if b = i then { s i with v := v', m := m' } else s b) q
    split
    · rename_i hai
      rw [if_neg (by omega)]
      intro h3 h4
      rcases hself q h3 with h3 | h3
      · exact h.apart i b hi hb (by omega) q h3 h4
      · have := PS.lt (h.live b hb) h4; omega
    · split
      · rename_i hai hbi
        intro h3 h4
        rcases hself q h4 with h4 | h4
        · exact h.apart a i ha hi hai q h3 h4
        · have := PS.lt (h.live a ha) h3; omega
      · exact h.apart a b ha hb hne q
  · show PS.full (if j = i then { s i with v := v', m := m' } else s j) q → _
    split
    · intro h3
      rcases hself q h3 with h3 | h3
      · exact h.new i hi q h3
      · omega
    · exact h.new j hj q

/-- what plays answers, of whatever kind -/
def PlaysAny (w : World) (p g rb rg : Nat) (v : Value) (m : M) (e : Ending) (w' : World) : Prop :=
  e = .returned (.bool true) ∧ ∃ v' m', Live w' p g rb rg v' m' ∧ Only w w' (Win.foot g rb rg v) ∧ (v'.ownBlock = v.ownBlock ∨ ∃ b, v'.ownBlock = some b ∧ w.heap.size ≤ b) ∧ m'.taken.length ≤ m.taken.length + 1
theorem mark_len (m : M) (c : Nat) : (m.mark c).taken.length ≤ m.taken.length + 1 := by unfold M.mark; split <;> simp
theorem quiet_any {w : World} {p g rb rg : Nat} {v : Value} {m : M} (h : Live w p g rb rg v m) : ∀ (e : Ending) (w' : World), Quiet (.bool true) w e w' → PlaysAny w p g rb rg v m e w' := by
  rintro e w' ⟨q, rfl, rfl⟩
  exact ⟨rfl, v, m, h.drewN q, (Only.refl w _).drewN q, .inl rfl, by omega⟩
theorem plays_any (p g rb rg : Nat) (v : Value) (m : M) (k : Int) (c : Nat) (w : World) (h : Live w p g rb rg v m) (hc : c < 18446744073709551616) (hn : m.taken.length ≤ 1048576) :
    Calls Try.prog 14 #[.pointer (some ⟨p, 0, none⟩), .int .i64 k, .int .u64 (c : Int)] w (PlaysAny w p g rb rg v m) := by
  by_cases h1 : k = 1
  · subst h1
    refine (plays_mark p g rb rg v m c w h hc hn).mono fun e w' hh => ?_
    obtain ⟨rfl, v', h2, h3, h4⟩ := hh
    exact ⟨rfl, v', _, h2, h3, h4, mark_len m c⟩
  by_cases h2 : k = 2
  · subst h2
    exact (plays_takes p g rb rg v m c w h hc).mono (quiet_any h)
  by_cases h3 : k = 3
  · subst h3
    exact (plays_top p g rb rg v m c w h).mono (quiet_any h)
  exact (plays_none k ⟨h1, h2, h3⟩ _ _ w).mono (quiet_any h)

/-- what begin answers -/
def Begin (w : World) (on : Bool) (e : Ending) (w' : World) : Prop :=
  ∃ a : PS, e = .returned (.tuple #[.pointer (some ⟨a.p, 0, none⟩), .bool true]) ∧ a.live w' ∧ a.on = on ∧ Only w w' (fun _ => False) ∧ (∀ j, a.full j → w.heap.size ≤ j) ∧ a.m.taken = []
theorem begin_yes (floor n : Nat) (w : World) (hf : floor < 18446744073709551616) (h : mayB n = true) :
    Calls Try.prog 13 #[.int .u64 (floor : Int), .int .i64 (n : Int)] w (Begin w true) := by
  have H := Lib.hid h
  clear h
  go_enter Try.func13, Try.ntmps13
  go_wp2_with fail
  refine (win_new floor n n _ rfl hf H.out).mono ?_
  rintro e w1 ⟨g, rb, rfl, hW1, hO1, hg, hr⟩
  have H1 := Lib.hid (And.intro hW1 (And.intro hO1 (And.intro hg hr)))
  clear hW1 hO1 hg hr
  go_wp2_with fail
  refine (ref_new floor n n _ rfl hf H.out).mono ?_
  rintro e w2 ⟨rg, rfl, hR2, hO2, hg2⟩
  have hz : w.heap.size ≤ w2.heap.size := Nat.le_trans H1.out.2.1.size hO2.size
  have hL : Live (w2.alloc (.cells #[.pointer (some ⟨g, 0, none⟩), .pointer (some ⟨rg, 0, none⟩)] 33)) w2.heap.size g rb rg (.slice none 0 0) ⟨floor, n, []⟩ :=
    ⟨blk_new _ _, (H1.out.1.only hO2 (fun h => h) (fun h => h)).only ((Only.refl w2 (fun _ => False)).alloc _) (fun h => h) (fun h => h), hR2.only ((Only.refl w2 (fun _ => False)).alloc _) (fun h => h) (fun _ _ h => h), fun i hi => by cases hi⟩
  have HF : Hid (∀ q, Begin w true (.returned (.tuple #[.pointer (some ⟨w2.heap.size, 0, none⟩), .bool true])) ((w2.alloc (.cells #[.pointer (some ⟨g, 0, none⟩), .pointer (some ⟨rg, 0, none⟩)] 33)).drewN q)) := fun q => by
    obtain ⟨a1, a2, a3, a4⟩ := H1.out
    refine ⟨⟨true, w2.heap.size, g, rb, rg, .slice none 0 0, ⟨floor, n, []⟩⟩, rfl, ?_, rfl, ((a2.then_ hO2 (fun _ h => h.elim)).alloc _).drewN q, ?_, rfl⟩
    · unfold PS.live; rw [if_pos rfl]; exact hL.drewN q
    · rintro j (rfl | ⟨_, rfl | rfl | rfl | hj⟩)
      · exact hz
      · exact a3
      · exact a4
      · exact Nat.le_trans a2.size hg2
      · cases hj
  have c0 := hL.c0
  have c1 := hL.c1
  clear hR2 hO2 hg2 hL
  go_wp2_with fail
  go_quiet (fail)
  go_wp2_with fail
  go_ret2
  exact HF.out _
theorem begin_no (floor : Nat) (z : Int) (w : World) (hf : floor < 18446744073709551616) (h : mayB z = false) :
    Calls Try.prog 13 #[.int .u64 (floor : Int), .int .i64 z] w (Begin w false) := by
  have H := Lib.hid h
  clear h
  have hb := blk_new w (.cells #[.pointer none, .pointer none] 33)
  have HF : Hid (∀ q, Begin w false (.returned (.tuple #[.pointer (some ⟨w.heap.size, 0, none⟩), .bool true])) ((w.alloc (.cells #[.pointer none, .pointer none] 33)).drewN q)) := fun q => by
    refine ⟨⟨false, w.heap.size, 0, 0, 0, .slice none 0 0, ⟨0, 0, []⟩⟩, rfl, ?_, rfl, ((Only.refl w _).alloc _).drewN q, ?_, rfl⟩
    · unfold PS.live; rw [if_neg (by simp)]; exact hb
    · rintro j (rfl | ⟨h, _⟩)
      · exact Nat.le_refl _
      · cases h
  have c0 : (w.alloc (.cells #[.pointer none, .pointer none] 33)).cell? ⟨w.heap.size, 0, none⟩ = some (.pointer none) := (blk_cell hb 0).trans rfl
  have c1 : (w.alloc (.cells #[.pointer none, .pointer none] 33)).cell? ⟨w.heap.size, 1, none⟩ = some (.pointer none) := (blk_cell hb 1).trans rfl
  clear hb
  go_enter Try.func13, Try.ntmps13
  go_wp2_with fail
  refine (new_no floor z _ hf H.out).mono ?_
  rintro e w1 ⟨rfl, rfl⟩
  go_wp2_with fail
  refine (ref_no floor z _ hf H.out).mono ?_
  rintro e w2 ⟨rfl, rfl⟩
  go_wp2_with fail
  go_quiet (fail)
  go_wp2_with fail
  go_ret2
  exact HF.out _
theorem begin_any (floor : Nat) (z : Int) (w : World) (hf : floor < 18446744073709551616) :
    Calls Try.prog 13 #[.int .u64 (floor : Int), .int .i64 z] w (Begin w (mayB z)) := by
  by_cases h : mayB z = true
  · obtain ⟨n, rfl, _⟩ := mayB_yes h
    rw [h]; exact begin_yes floor n w hf h
  · have h0 : mayB z = false := by simpa using h
    rw [h0]; exact begin_no floor z w hf h0
end Go.Proofs.Ythiiobhogkenhaa.Win
