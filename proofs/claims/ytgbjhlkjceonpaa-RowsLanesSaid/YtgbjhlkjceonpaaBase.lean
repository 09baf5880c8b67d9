/- What a call leaves as it was: small words on worlds, for all proofs of this seat. -/
import Derived.Test.YtgbjhlkjceonpaaProg
import Derived.WalkKit
import Derived.ProofKit
import Derived.OpenShut
import Derived.Below
import Derived.Outline
import Derived.Deep.QuietTactic
import Derived.BigQuiet
import Derived.Lib.Hide
import Derived.Lib.SliceRun
import Derived.Laws.BitsAllLaws
import Derived.Laws.MakeOwn
import Derived.Deep.OwnRows
import Derived.Maps.AppendAt
import Derived.Deep.LoopGhost
import Derived.OwnWalk
import Derived.Deep.AppendLies
import Derived.Laws.OwnMore
namespace Go.Proofs.Ytgbjhlkjceonpaa.K
open Go.RowKit

/-- Only the blocks of S, and new ones, may be other than they were. -/
structure Only (w w' : World) (S : Nat → Prop) : Prop where
  os : w'.os = w.os
  tape : w'.tape = w.tape
  output : w'.output = w.output
  size : w.heap.size ≤ w'.heap.size
  block : ∀ k, k < w.heap.size → ¬ S k → w'.heap[k]? = w.heap[k]?

section
variable {w w1 w2 w3 : World} {S S1 S2 : Nat → Prop}
theorem Only.refl (w : World) (S : Nat → Prop) : Only w w S := ⟨rfl, rfl, rfl, Nat.le_refl _, fun _ _ _ => rfl⟩
theorem Only.drewN (n : Nat) (h : Only w w1 S) : Only w (w1.drewN n) S := ⟨h.os, h.tape, h.output, h.size, h.block⟩
theorem Only.drew (h : Only w w1 S) : Only w w1.drew S := ⟨h.os, h.tape, h.output, h.size, h.block⟩
theorem Only.mono (h : Only w w1 S) (hs : ∀ k, k < w.heap.size → S k → S1 k) : Only w w1 S1 := ⟨h.os, h.tape, h.output, h.size, fun k hk hn => h.block k hk (fun h2 => hn (hs k hk h2))⟩
/-- two steps: what the second writes is the first's to write, or new since w -/
theorem Only.then_ (h : Only w w1 S) (k : Only w1 w2 S1) (hs : ∀ i, S1 i → S i ∨ w.heap.size ≤ i) : Only w w2 S :=
  ⟨k.os.trans h.os, k.tape.trans h.tape, k.output.trans h.output, Nat.le_trans h.size k.size, fun i hi hn => (k.block i (Nat.lt_of_lt_of_le hi h.size) (fun h2 => (hs i h2).elim hn (fun h3 => by omega))).trans (h.block i hi hn)⟩
theorem Only.alloc (h : Only w w1 S) (o : Obj) : Only w (w1.alloc o) S :=
  h.then_ (S1 := fun _ => False) ⟨rfl, rfl, rfl, by simp, fun k hk _ => Below.heap_alloc _ _ _ hk⟩ (fun _ h => h.elim)
theorem Only.setCell (h : Only w w1 S) {p : Addr} (hp : S p.block ∨ w.heap.size ≤ p.block) (u : Value) : Only w (w1.setCell p u) S :=
  h.then_ (S1 := fun k => k = p.block) ⟨rfl, rfl, rfl, by simp [World.setCell], fun i _ hn => Below.heap_setCell w1 p u i hn⟩ (fun k hk => by rw [hk]; exact hp)
theorem Only.grown {row : Option Nat} (h : Only w w1 S) (hg : w1.grownBy w2 row) (hr : ∀ k, row = some k → S k ∨ w.heap.size ≤ k) : Only w w2 S :=
  h.then_ (S1 := fun k => row = some k) ⟨hg.os, hg.tape, hg.output, hg.size, fun i hi hn => hg.block i hi (fun he => hn he.symm)⟩ hr
theorem Only.of_below (h : Below w.heap.size w w1) (S : Nat → Prop) : Only w w1 S := ⟨h.os, h.tape, h.output, h.size, fun i hi _ => h.block i hi⟩
theorem Only.below (h : Only w w1 S) {B : Nat} (hS : ∀ k, S k → B ≤ k) (hB : B ≤ w.heap.size) : Below B w w1 := ⟨h.os, h.tape, h.output, h.size, fun k hk => h.block k (by omega) (fun h2 => by have := hS k h2; omega)⟩
theorem Below.then_only {B : Nat} (h : Below B w w1) (k : Only w1 w2 S) (hB : B ≤ w.heap.size) (hS : ∀ k, S k → B ≤ k) : Below B w w2 :=
  h.trans (k.below hS (Nat.le_trans hB h.size))
theorem Only.of_drewN {n : Nat} (h : Only (w.drewN n) w1 S) : Only w w1 S := ⟨h.os, h.tape, h.output, h.size, h.block⟩
theorem Only.blk (h : Only w w1 S) {g : Nat} {o : Obj} (hb : w.heap[g]? = some o) (hn : ¬ S g) : w1.heap[g]? = some o :=
  (h.block g (Array.getElem?_eq_some_iff.1 hb).1 hn).trans hb
end

section
variable {w : World} {g : Nat} {o : Obj} {cs : Array Value} {t : TypeId} {fr : Nat × Nat}
theorem blk_lt (hb : w.heap[g]? = some o) : g < w.heap.size := (Array.getElem?_eq_some_iff.1 hb).1
theorem blk_cell (hb : w.heap[g]? = some (.cells cs t fr)) (j : Nat) : w.cell? ⟨g, j, none⟩ = cs[j]? := by simp [World.cell?, hb]
theorem blk_free (hb : w.heap[g]? = some (.cells cs t (0, 0))) (j : Nat) : w.frozen? ⟨g, j, none⟩ = false := by simp [World.frozen?, hb]
theorem blk_set (hb : w.heap[g]? = some (.cells cs t fr)) (j : Nat) (u : Value) : (w.setCell ⟨g, j, none⟩ u).heap[g]? = some (.cells (cs.setIfInBounds j u) t fr) := by
  simp only [World.setCell, Array.getElem?_modify, if_true, hb, Option.map_some]
  simp
theorem blk_far (hb : w.heap[g]? = some o) {p : Addr} (hn : g ≠ p.block) (u : Value) : (w.setCell p u).heap[g]? = some o := (Below.heap_setCell w p u g hn).trans hb
theorem blk_alloc (hb : w.heap[g]? = some o) (q : Obj) : (w.alloc q).heap[g]? = some o := (Below.heap_alloc w q g (blk_lt hb)).trans hb
theorem blk_new (w : World) (q : Obj) : (w.alloc q).heap[w.heap.size]? = some q := heap_alloc_new w q
theorem blk_drewN (n : Nat) (hb : w.heap[g]? = some o) : (w.drewN n).heap[g]? = some o := hb
theorem blk_ne {g2 : Nat} {cs2 : Array Value} {t2 : TypeId} {fr2 : Nat × Nat} (hb : w.heap[g]? = some (.cells cs t fr)) (hb2 : w.heap[g2]? = some (.cells cs2 t2 fr2)) (h : t ≠ t2) : g ≠ g2 := by
  rintro rfl
  rw [hb] at hb2
  injection hb2 with hb2
  injection hb2 with _ h2
  exact h h2
end

/-- a run of cells written at once -/
theorem setCells_blk {rb : Nat} {e : TypeId} : ∀ (vs : List Value) (o : Nat) (u : World) (cur : Array Value), u.heap[rb]? = some (.cells cur e (0, 0)) → o + vs.length ≤ cur.size →
    (∃ cur', (u.setCells rb o vs).heap[rb]? = some (.cells cur' e (0, 0)) ∧ cur'.size = cur.size ∧ ∀ i, cur'[i]? = if o ≤ i ∧ i < o + vs.length then vs[i - o]? else cur[i]?) ∧ Only u (u.setCells rb o vs) (fun k => k = rb) := by
  intro vs
  induction vs with
  | nil => intro o u cur hu _; exact ⟨⟨cur, hu, rfl, fun i => by rw [if_neg (by simp only [List.length_nil]; omega)]⟩, Only.refl _ _⟩
  | cons v r ih =>
    intro o u cur hu hl
    simp only [List.length_cons] at hl
    obtain ⟨⟨c2, h1, h2, h3⟩, h4⟩ := ih (o + 1) _ _ (blk_set hu o v) (by simp only [Array.size_setIfInBounds]; omega)
    refine ⟨⟨c2, h1, by rw [h2, Array.size_setIfInBounds], fun i => ?_⟩, ((Only.refl u (fun k => k = rb)).setCell (p := ⟨rb, o, none⟩) (.inl rfl) v).then_ h4 (fun i hi => .inl hi)⟩
    rw [h3]
    by_cases hi : i = o
    · subst hi
      rw [if_neg (by omega), if_pos (by simp only [List.length_cons]; omega), Array.getElem?_setIfInBounds]
      simp
      try omega
    · by_cases h5 : o + 1 ≤ i ∧ i < o + 1 + r.length
      · rw [if_pos h5, if_pos (by simp only [List.length_cons]; omega), show i - o = (i - (o + 1)) + 1 by omega, List.getElem?_cons_succ]
      · rw [if_neg h5, if_neg (by simp only [List.length_cons]; omega), Array.getElem?_setIfInBounds, if_neg (by omega)]
/-- A pure answer: only orders were drawn. -/
def Quiet (r : Value) (w : World) (e : Ending) (w' : World) : Prop := ∃ m, e = .returned r ∧ w' = w.drewN m
theorem ret_bool {a b : Bool} (h : a = b) : Ending.returned (.bool a) = .returned (.bool b) := by rw [h]
theorem drewN0 (w : World) : w = w.drewN 0 := rfl
theorem calls_quiet {P : Program} {f : Nat} {args : Array Value} {w : World} {r : Value} (h : Calls P f args w (Quiet r w)) : Calls P f args w fun e w' => ∃ m, e = .returned r ∧ w' = w.drewN m := h

/-- the whole numbers of a list as cells -/
def u64s (l : List Nat) : Array Value := (l.map fun (x : Nat) => Value.int .u64 (x : Int)).toArray
theorem u64s_get (l : List Nat) (i : Nat) (h : i < l.length) : (u64s l)[i]? = some (.int .u64 (l.getD i 0 : Nat)) := by
  simp [u64s, h]
theorem u64s_set (l : List Nat) (i x : Nat) : (u64s l).setIfInBounds i (.int .u64 (x : Int)) = u64s (l.set i x) := by
  simp [u64s, List.map_set]
theorem u64s_size (l : List Nat) : (u64s l).size = l.length := by simp [u64s]
def B64 : Nat := 18446744073709551616
def band (a b : Nat) : Nat := a &&& b
def bor (a b : Nat) : Nat := a ||| b
def bclr (a b : Nat) : Nat := a &&& (18446744073709551615 - b)
theorem band_eq {a b : Nat} (ha : a < B64) (hb : b < B64) : bits .and .u64 (a : Int) (b : Int) = (band a b : Nat) := by
  unfold B64 at *; exact u64_and_nat a b ha hb
theorem bor_eq {a b : Nat} (ha : a < B64) (hb : b < B64) : bits .or .u64 (a : Int) (b : Int) = (bor a b : Nat) := by
  unfold B64 at *; exact u64_or_nat a b ha hb
theorem bclr_eq {a b : Nat} (ha : a < B64) (hb : b < B64) : bits .andNot .u64 (a : Int) (b : Int) = (bclr a b : Nat) := by
  unfold B64 at *; exact u64_andNot_nat a b ha hb
theorem beq_nat0 (n : Nat) : ((n : Int) == 0) = (n == 0) := by
  cases n with
  | zero => rfl
  | succ n => simp; omega
theorem bor_lt {a b : Nat} (ha : a < B64) (hb : b < B64) : bor a b < B64 := by
  unfold B64 bor at *; exact Nat.or_lt_two_pow (n := 64) ha hb
theorem bclr_lt {a b : Nat} (ha : a < B64) : bclr a b < B64 := by
  unfold B64 bclr at *; exact Nat.lt_of_le_of_lt Nat.and_le_left ha

/-! slices of the call's own that grow -/
section
variable {w w1 : World} {e : TypeId} {v : Value} {n : Nat} {xs : List Value}
theorem own_form (h : w.ownsRow 0 e 1 v n xs) : ∃ A cap, v = .slice A n cap ∧ ∀ k, k < n → ∃ tb, A = some ⟨tb, 0, none⟩ ∧ w.cell? ⟨tb, k, none⟩ = some (xs.getD k default) := by
  rcases Nat.eq_zero_or_pos n with h0 | h0
  · subst h0
    rcases h.2 with ⟨rfl, _⟩ | ⟨g, cap, cur, rfl, _⟩
    · exact ⟨none, 0, rfl, fun k hk => by omega⟩
    · exact ⟨_, cap, rfl, fun k hk => by omega⟩
  · obtain ⟨g, cap, rfl, _, _⟩ := h.form h0
    refine ⟨_, cap, rfl, fun k hk => ⟨g, rfl, ?_⟩⟩
    have hl : xs.length = n := by have := h.1; simpa using this
    have hc := h.cells (g := g) rfl k (xs.getD k default) (by rw [List.getElem?_eq_getElem (by omega), List.getD_eq_getElem?_getD, List.getElem?_eq_getElem (by omega)]; rfl)
    have e0 : (⟨g, 0, none⟩ : Addr).add k = ⟨g, k, none⟩ := by unfold Addr.add; split <;> simp_all
    rwa [e0] at hc
theorem own_len (h : w.ownsRow 0 e 1 v n xs) : n ≤ 9223372036854775807 := by
  rcases h.2 with ⟨_, h1⟩ | ⟨g', cap', cur, he, _, _, h1, h2, _⟩
  · omega
  · simp only [maxLen] at h2; omega
theorem own_blk (h : w.ownsRow 0 e 1 v n xs) {k : Nat} (hk : v.ownBlock = some k) : ∃ cs, w.heap[k]? = some (.cells cs e (0, 0)) := by
  rcases h.2 with ⟨rfl, _⟩ | ⟨g, cap, cur, rfl, _, hh, _⟩
  · simp [Value.ownBlock] at hk
  · have : g = k := by simpa [Value.ownBlock] using hk
    subst this
    exact ⟨_, hh⟩
theorem own_keep {S : Nat → Prop} (h : w.ownsRow 0 e 1 v n xs) (k : Only w w1 S) (hn : ∀ i, v.ownBlock = some i → ¬ S i) : w1.ownsRow 0 e 1 v n xs := by
  refine ⟨h.1, ?_⟩
  rcases h.2 with h2 | ⟨g, cap, cur, hv, hg, hh, r⟩
  · exact Or.inl h2
  · exact Or.inr ⟨g, cap, cur, hv, hg, k.blk hh (hn g (by rw [hv]; rfl)), r⟩
theorem own_drewN (h : w.ownsRow 0 e 1 v n xs) (m : Nat) : (w.drewN m).ownsRow 0 e 1 v n xs := ⟨h.1, h.2⟩
end

section
variable {P : Program} {ops : Array Oper} {rest : List Oper} {o : Oper} {a : Act} {Q : Exit → Act → World → Prop}
/-- one item appended to a slice of the call's own -/
theorem ap1 {W : World} (hgd : o.guard = none) (s x : Operand) (t e : TypeId) (z : Value) (bytes : Nat)
    (ho : o.op = .call { callee := .builtin .append, args := #[s, x], argTypes := #[t, t] })
    (ht : P.underlying t = some (.slice e)) (hinfo : (P.info? e).map (fun i => (i.zero, i.size, i.bytes)) = some (some z, 1, bytes)) (hz : z.cells.size = 1) (hb0 : 0 < bytes)
    (v : Value) (xs : List Value) (y : Value) (hs : a.eval s = v) (hx : a.eval x = .slice (some ⟨W.heap.size, 0, none⟩) 1 1) (h1 : y.oneCell' = true)
    (HO : W.ownsRow 0 e 1 v xs.length xs) (hl : (xs.length + 1) * bytes ≤ 140737488355328)
    (h : ∀ v1 w1, w1.ownsRow 0 e 1 v1 (xs.length + 1) (xs ++ [y]) → Only W w1 (fun k => v.ownBlock = some k) → (v1.ownBlock = v.ownBlock ∨ ∃ b, v1.ownBlock = some b ∧ W.heap.size ≤ b) → wpList P ops Q rest (a.put o.dst v1) w1) :
    wpList P ops Q (o :: rest) a (W.alloc (.cells #[y] e)) := by
  obtain ⟨i0, hi, hzz⟩ := Option.map_eq_some_iff.1 hinfo
  simp only [Prod.mk.injEq] at hzz
  obtain ⟨hz0, hz1, hz2⟩ := hzz
  have hlen : xs.length + 1 ≤ 140737488355328 := Nat.le_trans (Nat.le_mul_of_pos_right _ hb0) hl
  refine wpList_append_own_at (W.alloc (.cells #[y] e)) hgd s x t ho 0 e i0 z 1 bytes ht hi hz0 hz1 hz2 hz (by omega) v xs.length xs hs (HO.alloc _) ⟨W.heap.size, 0, none⟩ 1 1 [y] hx rfl
    (World.news_of_block (cs := #[y]) (t := e) (fr := (0, 0)) (heap_alloc_new W _)) (by simpa using h1) (by simp only [maxLen]; omega) hl (by simp) ?_
  intro v1 w1 hown hg _ hat
  refine h v1 w1 hown (((Only.refl W _).alloc _).grown hg (fun k hk => .inl hk)) ?_
  rcases hat with hat | hat
  · exact .inl hat
  · exact .inr ⟨_, hat, by simp⟩
end
end Go.Proofs.Ytgbjhlkjceonpaa.K
