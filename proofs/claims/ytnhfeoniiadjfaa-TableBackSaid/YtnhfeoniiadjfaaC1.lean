/- Contracts of the functions that the laws of this seat reach: part 1 of 8. -/
import Derived.Test.YtnhfeoniiadjfaaProg
import Derived.WalkKit
import Derived.ProofKit
import Derived.OpenShut
import Derived.Below
import Derived.Outline
import Derived.Deep.QuietTactic
import Derived.BigQuiet
import Derived.Lib.Hide
import Derived.Lib.SliceRun
import Derived.Laws.BitsAllLaws
import Derived.Laws.MakeOwn
import Derived.Deep.OwnRows
import Derived.Maps.AppendAt
import Derived.Deep.LoopGhost
import Derived.OwnWalk
import Derived.Deep.AppendLies
import Derived.Laws.OwnMore
import Derived.IntWalk
import Derived.Laws.IdiomStrings
import Derived.Laws.BytesArg
import Derived.Deep.RegionHeld3
import Derived.Deep.DeepCutAuto
import Derived.Test.YtnhfeoniiadjfaaRows
import Derived.ChangeSlices
import Derived.ChangeSame
import Derived.Carry
import Derived.SizedLaws
import Derived.Deep.Slices
import Derived.Deep.Fields
import Derived.Lib.SmallJoins
/- What a call leaves as it was: small words on worlds, for all proofs of this seat. -/
namespace Go.Proofs.Ytnhfeoniiadjfaa.K
open Go.RowKit

/-- Only the blocks of S, and new ones, may be other than they were. -/
structure Only (w w' : World) (S : Nat → Prop) : Prop where
  os : w'.os = w.os
  tape : w'.tape = w.tape
  output : w'.output = w.output
  size : w.heap.size ≤ w'.heap.size
  block : ∀ k, k < w.heap.size → ¬ S k → w'.heap[k]? = w.heap[k]?

section
variable {w w1 w2 w3 : World} {S S1 S2 : Nat → Prop}
theorem Only.refl (w : World) (S : Nat → Prop) : Only w w S := ⟨rfl, rfl, rfl, Nat.le_refl _, fun _ _ _ => rfl⟩
theorem Only.drewN (n : Nat) (h : Only w w1 S) : Only w (w1.drewN n) S := ⟨h.os, h.tape, h.output, h.size, h.block⟩
theorem Only.drew (h : Only w w1 S) : Only w w1.drew S := ⟨h.os, h.tape, h.output, h.size, h.block⟩
theorem Only.mono (h : Only w w1 S) (hs : ∀ k, k < w.heap.size → S k → S1 k) : Only w w1 S1 := ⟨h.os, h.tape, h.output, h.size, fun k hk hn => h.block k hk (fun h2 => hn (hs k hk h2))⟩
/-- two steps: what the second writes is the first's to write, or new since w -/
theorem Only.then_ (h : Only w w1 S) (k : Only w1 w2 S1) (hs : ∀ i, S1 i → S i ∨ w.heap.size ≤ i) : Only w w2 S :=
  ⟨k.os.trans h.os, k.tape.trans h.tape, k.output.trans h.output, Nat.le_trans h.size k.size, fun i hi hn => (k.block i (Nat.lt_of_lt_of_le hi h.size) (fun h2 => (hs i h2).elim hn (fun h3 => by omega))).trans (h.block i hi hn)⟩
theorem Only.alloc (h : Only w w1 S) (o : Obj) : Only w (w1.alloc o) S :=
  h.then_ (S1 := fun _ => False) ⟨rfl, rfl, rfl, by simp, fun k hk _ => Below.heap_alloc _ _ _ hk⟩ (fun _ h => h.elim)
theorem Only.setCell (h : Only w w1 S) {p : Addr} (hp : S p.block ∨ w.heap.size ≤ p.block) (u : Value) : Only w (w1.setCell p u) S :=
  h.then_ (S1 := fun k => k = p.block) ⟨rfl, rfl, rfl, by simp [World.setCell], fun i _ hn => Below.heap_setCell w1 p u i hn⟩ (fun k hk => by rw [hk]; exact hp)
theorem Only.grown {row : Option Nat} (h : Only w w1 S) (hg : w1.grownBy w2 row) (hr : ∀ k, row = some k → S k ∨ w.heap.size ≤ k) : Only w w2 S :=
  h.then_ (S1 := fun k => row = some k) ⟨hg.os, hg.tape, hg.output, hg.size, fun i hi hn => hg.block i hi (fun he => hn he.symm)⟩ hr
theorem Only.of_below (h : Below w.heap.size w w1) (S : Nat → Prop) : Only w w1 S := ⟨h.os, h.tape, h.output, h.size, fun i hi _ => h.block i hi⟩
theorem Only.below (h : Only w w1 S) {B : Nat} (hS : ∀ k, S k → B ≤ k) (hB : B ≤ w.heap.size) : Below B w w1 := ⟨h.os, h.tape, h.output, h.size, fun k hk => h.block k (by omega) (fun h2 => by have := hS k h2; omega)⟩
theorem Below.then_only {B : Nat} (h : Below B w w1) (k : Only w1 w2 S) (hB : B ≤ w.heap.size) (hS : ∀ k, S k → B ≤ k) : Below B w w2 :=
  h.trans (k.below hS (Nat.le_trans hB h.size))
theorem Only.of_drewN {n : Nat} (h : Only (w.drewN n) w1 S) : Only w w1 S := ⟨h.os, h.tape, h.output, h.size, h.block⟩
theorem Only.blk (h : Only w w1 S) {g : Nat} {o : Obj} (hb : w.heap[g]? = some o) (hn : ¬ S g) : w1.heap[g]? = some o :=
  (h.block g (Array.getElem?_eq_some_iff.1 hb).1 hn).trans hb
end

section
variable {w : World} {g : Nat} {o : Obj} {cs : Array Value} {t : TypeId} {fr : Nat × Nat}
theorem blk_lt (hb : w.heap[g]? = some o) : g < w.heap.size := (Array.getElem?_eq_some_iff.1 hb).1
theorem blk_cell (hb : w.heap[g]? = some (.cells cs t fr)) (j : Nat) : w.cell? ⟨g, j, none⟩ = cs[j]? := by simp [World.cell?, hb]
theorem blk_free (hb : w.heap[g]? = some (.cells cs t (0, 0))) (j : Nat) : w.frozen? ⟨g, j, none⟩ = false := by simp [World.frozen?, hb]
theorem blk_set (hb : w.heap[g]? = some (.cells cs t fr)) (j : Nat) (u : Value) : (w.setCell ⟨g, j, none⟩ u).heap[g]? = some (.cells (cs.setIfInBounds j u) t fr) := by
  simp only [World.setCell, Array.getElem?_modify, if_true, hb, Option.map_some]
  simp
theorem blk_far (hb : w.heap[g]? = some o) {p : Addr} (hn : g ≠ p.block) (u : Value) : (w.setCell p u).heap[g]? = some o := (Below.heap_setCell w p u g hn).trans hb
theorem blk_alloc (hb : w.heap[g]? = some o) (q : Obj) : (w.alloc q).heap[g]? = some o := (Below.heap_alloc w q g (blk_lt hb)).trans hb
theorem blk_new (w : World) (q : Obj) : (w.alloc q).heap[w.heap.size]? = some q := heap_alloc_new w q
theorem blk_drewN (n : Nat) (hb : w.heap[g]? = some o) : (w.drewN n).heap[g]? = some o := hb
theorem blk_ne {g2 : Nat} {cs2 : Array Value} {t2 : TypeId} {fr2 : Nat × Nat} (hb : w.heap[g]? = some (.cells cs t fr)) (hb2 : w.heap[g2]? = some (.cells cs2 t2 fr2)) (h : t ≠ t2) : g ≠ g2 := by
  rintro rfl
  rw [hb] at hb2
  injection hb2 with hb2
  injection hb2 with _ h2
  exact h h2
end

/-- a run of cells written at once -/
theorem setCells_blk {rb : Nat} {e : TypeId} : ∀ (vs : List Value) (o : Nat) (u : World) (cur : Array Value), u.heap[rb]? = some (.cells cur e (0, 0)) → o + vs.length ≤ cur.size →
    (∃ cur', (u.setCells rb o vs).heap[rb]? = some (.cells cur' e (0, 0)) ∧ cur'.size = cur.size ∧ ∀ i, cur'[i]? = if o ≤ i ∧ i < o + vs.length then vs[i - o]? else cur[i]?) ∧ Only u (u.setCells rb o vs) (fun k => k = rb) := by
  intro vs
  induction vs with
  | nil => intro o u cur hu _; exact ⟨⟨cur, hu, rfl, fun i => by rw [if_neg (by simp only [List.length_nil]; omega)]⟩, Only.refl _ _⟩
  | cons v r ih =>
    intro o u cur hu hl
    simp only [List.length_cons] at hl
    obtain ⟨⟨c2, h1, h2, h3⟩, h4⟩ := ih (o + 1) _ _ (blk_set hu o v) (by simp only [Array.size_setIfInBounds]; omega)
    refine ⟨⟨c2, h1, by rw [h2, Array.size_setIfInBounds], fun i => ?_⟩, ((Only.refl u (fun k => k = rb)).setCell (p := ⟨rb, o, none⟩) (.inl rfl) v).then_ h4 (fun i hi => .inl hi)⟩
    rw [h3]
    by_cases hi : i = o
    · subst hi
      rw [if_neg (by omega), if_pos (by simp only [List.length_cons]; omega), Array.getElem?_setIfInBounds]
      simp
      try omega
    · by_cases h5 : o + 1 ≤ i ∧ i < o + 1 + r.length
      · rw [if_pos h5, if_pos (by simp only [List.length_cons]; omega), show i - o = (i - (o + 1)) + 1 by omega, List.getElem?_cons_succ]
      · rw [if_neg h5, if_neg (by simp only [List.length_cons]; omega), Array.getElem?_setIfInBounds, if_neg (by omega)]
/-- A pure answer: only orders were drawn. -/
def Quiet (r : Value) (w : World) (e : Ending) (w' : World) : Prop := ∃ m, e = .returned r ∧ w' = w.drewN m
theorem ret_bool {a b : Bool} (h : a = b) : Ending.returned (.bool a) = .returned (.bool b) := by rw [h]
theorem drewN0 (w : World) : w = w.drewN 0 := rfl
theorem calls_quiet {P : Program} {f : Nat} {args : Array Value} {w : World} {r : Value} (h : Calls P f args w (Quiet r w)) : Calls P f args w fun e w' => ∃ m, e = .returned r ∧ w' = w.drewN m := h

/-- the whole numbers of a list as cells -/
def u64s (l : List Nat) : Array Value := (l.map fun (x : Nat) => Value.int .u64 (x : Int)).toArray
theorem u64s_get (l : List Nat) (i : Nat) (h : i < l.length) : (u64s l)[i]? = some (.int .u64 (l.getD i 0 : Nat)) := by
  simp [u64s, h]
theorem u64s_set (l : List Nat) (i x : Nat) : (u64s l).setIfInBounds i (.int .u64 (x : Int)) = u64s (l.set i x) := by
  simp [u64s, List.map_set]
theorem u64s_size (l : List Nat) : (u64s l).size = l.length := by simp [u64s]
def B64 : Nat := 18446744073709551616
def band (a b : Nat) : Nat := a &&& b
def bor (a b : Nat) : Nat := a ||| b
def bclr (a b : Nat) : Nat := a &&& (18446744073709551615 - b)
theorem band_eq {a b : Nat} (ha : a < B64) (hb : b < B64) : bits .and .u64 (a : Int) (b : Int) = (band a b : Nat) := by
  unfold B64 at *; exact u64_and_nat a b ha hb
theorem bor_eq {a b : Nat} (ha : a < B64) (hb : b < B64) : bits .or .u64 (a : Int) (b : Int) = (bor a b : Nat) := by
  unfold B64 at *; exact u64_or_nat a b ha hb
theorem bclr_eq {a b : Nat} (ha : a < B64) (hb : b < B64) : bits .andNot .u64 (a : Int) (b : Int) = (bclr a b : Nat) := by
  unfold B64 at *; exact u64_andNot_nat a b ha hb
theorem beq_nat0 (n : Nat) : ((n : Int) == 0) = (n == 0) := by
  cases n with
  | zero => rfl
  | succ n => simp; omega
theorem bor_lt {a b : Nat} (ha : a < B64) (hb : b < B64) : bor a b < B64 := by
  unfold B64 bor at *; exact Nat.or_lt_two_pow (n := 64) ha hb
theorem bclr_lt {a b : Nat} (ha : a < B64) : bclr a b < B64 := by
  unfold B64 bclr at *; exact Nat.lt_of_le_of_lt Nat.and_le_left ha

/-! slices of the call's own that grow -/
section
variable {w w1 : World} {e : TypeId} {v : Value} {n : Nat} {xs : List Value}
theorem own_form (h : w.ownsRow 0 e 1 v n xs) : ∃ A cap, v = .slice A n cap ∧ ∀ k, k < n → ∃ tb, A = some ⟨tb, 0, none⟩ ∧ w.cell? ⟨tb, k, none⟩ = some (xs.getD k default) := by
  rcases Nat.eq_zero_or_pos n with h0 | h0
  · subst h0
    rcases h.2 with ⟨rfl, _⟩ | ⟨g, cap, cur, rfl, _⟩
    · exact ⟨none, 0, rfl, fun k hk => by omega⟩
    · exact ⟨_, cap, rfl, fun k hk => by omega⟩
  · obtain ⟨g, cap, rfl, _, _⟩ := h.form h0
    refine ⟨_, cap, rfl, fun k hk => ⟨g, rfl, ?_⟩⟩
    have hl : xs.length = n := by have := h.1; simpa using this
    have hc := h.cells (g := g) rfl k (xs.getD k default) (by rw [List.getElem?_eq_getElem (by omega), List.getD_eq_getElem?_getD, List.getElem?_eq_getElem (by omega)]; rfl)
    have e0 : (⟨g, 0, none⟩ : Addr).add k = ⟨g, k, none⟩ := by unfold Addr.add; split <;> simp_all
    rwa [e0] at hc
theorem own_len (h : w.ownsRow 0 e 1 v n xs) : n ≤ 9223372036854775807 := by
  rcases h.2 with ⟨_, h1⟩ | ⟨g', cap', cur, he, _, _, h1, h2, _⟩
  · omega
  · simp only [maxLen] at h2; omega
theorem own_blk (h : w.ownsRow 0 e 1 v n xs) {k : Nat} (hk : v.ownBlock = some k) : ∃ cs, w.heap[k]? = some (.cells cs e (0, 0)) := by
  rcases h.2 with ⟨rfl, _⟩ | ⟨g, cap, cur, rfl, _, hh, _⟩
  · simp [Value.ownBlock] at hk
  · have : g = k := by simpa [Value.ownBlock] using hk
    subst this
    exact ⟨_, hh⟩
theorem own_keep {S : Nat → Prop} (h : w.ownsRow 0 e 1 v n xs) (k : Only w w1 S) (hn : ∀ i, v.ownBlock = some i → ¬ S i) : w1.ownsRow 0 e 1 v n xs := by
  refine ⟨h.1, ?_⟩
  rcases h.2 with h2 | ⟨g, cap, cur, hv, hg, hh, r⟩
  · exact Or.inl h2
  · exact Or.inr ⟨g, cap, cur, hv, hg, k.blk hh (hn g (by rw [hv]; rfl)), r⟩
theorem own_drewN (h : w.ownsRow 0 e 1 v n xs) (m : Nat) : (w.drewN m).ownsRow 0 e 1 v n xs := ⟨h.1, h.2⟩
end

section
variable {P : Program} {ops : Array Oper} {rest : List Oper} {o : Oper} {a : Act} {Q : Exit → Act → World → Prop}
/-- one item appended to a slice of the call's own -/
theorem ap1 {W : World} (hgd : o.guard = none) (s x : Operand) (t e : TypeId) (z : Value) (bytes : Nat)
    (ho : o.op = .call { callee := .builtin .append, args := #[s, x], argTypes := #[t, t] })
    (ht : P.underlying t = some (.slice e)) (hinfo : (P.info? e).map (fun i => (i.zero, i.size, i.bytes)) = some (some z, 1, bytes)) (hz : z.cells.size = 1) (hb0 : 0 < bytes)
    (v : Value) (xs : List Value) (y : Value) (hs : a.eval s = v) (hx : a.eval x = .slice (some ⟨W.heap.size, 0, none⟩) 1 1) (h1 : y.oneCell' = true)
    (HO : W.ownsRow 0 e 1 v xs.length xs) (hl : (xs.length + 1) * bytes ≤ 140737488355328)
    (h : ∀ v1 w1, w1.ownsRow 0 e 1 v1 (xs.length + 1) (xs ++ [y]) → Only W w1 (fun k => v.ownBlock = some k) → (v1.ownBlock = v.ownBlock ∨ ∃ b, v1.ownBlock = some b ∧ W.heap.size ≤ b) → wpList P ops Q rest (a.put o.dst v1) w1) :
    wpList P ops Q (o :: rest) a (W.alloc (.cells #[y] e)) := by
  obtain ⟨i0, hi, hzz⟩ := Option.map_eq_some_iff.1 hinfo
  simp only [Prod.mk.injEq] at hzz
  obtain ⟨hz0, hz1, hz2⟩ := hzz
  have hlen : xs.length + 1 ≤ 140737488355328 := Nat.le_trans (Nat.le_mul_of_pos_right _ hb0) hl
  refine wpList_append_own_at (W.alloc (.cells #[y] e)) hgd s x t ho 0 e i0 z 1 bytes ht hi hz0 hz1 hz2 hz (by omega) v xs.length xs hs (HO.alloc _) ⟨W.heap.size, 0, none⟩ 1 1 [y] hx rfl
    (World.news_of_block (cs := #[y]) (t := e) (fr := (0, 0)) (heap_alloc_new W _)) (by simpa using h1) (by simp only [maxLen]; omega) hl (by simp) ?_
  intro v1 w1 hown hg _ hat
  refine h v1 w1 hown (((Only.refl W _).alloc _).grown hg (fun k hk => .inl hk)) ?_
  rcases hat with hat | hat
  · exact .inl hat
  · exact .inr ⟨_, hat, by simp⟩
end
end Go.Proofs.Ytnhfeoniiadjfaa.K
/- Lists of bytes in memory: small words for all proofs of this seat. -/
namespace Go.Proofs.Ytnhfeoniiadjfaa.K
open Go.RowKit

def u8 (b : UInt8) : Value := .int .u8 (b.toNat : Int)
def u8s (l : List UInt8) : List Value := l.map u8
theorem u8s_len (l : List UInt8) : (u8s l).length = l.length := by simp [u8s]
theorem u8s_app (l m : List UInt8) : u8s (l ++ m) = u8s l ++ u8s m := by simp [u8s]
theorem u8s_snoc (l : List UInt8) (b : UInt8) : u8s (l ++ [b]) = u8s l ++ [.int .u8 (b.toNat : Int)] := by simp [u8s, u8]
theorem u8s_at (l : List UInt8) (i : Nat) : (u8s l)[i]? = l[i]?.map u8 := by unfold u8s; rw [List.getElem?_map]
theorem u8s_arr (l : List UInt8) (i : Nat) : (u8s l).toArray[i]? = l[i]?.map u8 := by rw [List.getElem?_toArray, u8s_at]
theorem u8s_get (l : List UInt8) (j : Nat) (h : j < l.length) : (u8s l).getD j default = .int .u8 ((l.getD j 0).toNat : Int) := by simp [u8s, u8, h]

/-- a slice of bytes that reads as l; its length is l's -/
structure Bs (w : World) (A : Option Addr) (c : Nat) (l : List UInt8) : Prop where
  le : l.length ≤ c
  max : l.length ≤ 140737488355328
  at_ : ∀ i, i < l.length → ∃ ad, A = some ad ∧ ad.block < w.heap.size ∧ w.cell? (ad.add i) = some (.int .u8 ((l.getD i 0).toNat : Int))
theorem addr_add_block (a : Addr) (n : Nat) : (a.add n).block = a.block := by unfold Addr.add; split <;> rfl
theorem addr_add_plain (g j : Nat) : (⟨g, 0, none⟩ : Addr).add j = ⟨g, j, none⟩ := by unfold Addr.add; split <;> simp_all
section
variable {w w' : World} {A : Option Addr} {c : Nat} {l : List UInt8}
theorem Bs.below (h : Bs w A c l) (hb : Below w.heap.size w w') : Bs w' A c l :=
  ⟨h.le, h.max, fun i hi => by
    obtain ⟨ad, e, hlt, hc⟩ := h.at_ i hi
    exact ⟨ad, e, Nat.lt_of_lt_of_le hlt hb.size, (hb.cell (p := ad.add i) (by rw [addr_add_block]; exact hlt)).trans hc⟩⟩
theorem Bs.drewN (h : Bs w A c l) (n : Nat) : Bs (w.drewN n) A c l := ⟨h.le, h.max, h.at_⟩
theorem Bs.nil (w : World) (A : Option Addr) (c : Nat) : Bs w A c [] := ⟨by simp, by simp, fun i hi => by simp at hi⟩
theorem Bs.cells (h : Bs w A c l) {ad : Addr} (ha : A = some ad) : ∀ j v, (u8s l)[j]? = some v → w.cell? (ad.add j) = some v := by
  intro j v hv
  have hj : j < l.length := by
    rcases Nat.lt_or_ge j l.length with h1 | h1
    · exact h1
    · rw [List.getElem?_eq_none (by rw [u8s_len]; exact h1)] at hv; cases hv
  obtain ⟨ad', e, _, hc⟩ := h.at_ j hj
  rw [ha] at e; injection e with e; subst e
  rw [hc]
  simp [u8s, u8, hj] at hv
  rw [← hv]; simp [hj]
end
theorem below_drewN {B : Nat} {w W : World} (h : Below B w W) (n : Nat) : Below B w (W.drewN n) := ⟨h.os, h.tape, h.output, h.size, h.block⟩
theorem below_then {B : Nat} {w w1 w2 : World} (h : Below B w w1) (hB : B ≤ w1.heap.size) (k : Below w1.heap.size w1 w2) : Below B w w2 :=
  h.trans ⟨k.os, k.tape, k.output, k.size, fun i hi => k.block i (Nat.lt_of_lt_of_le hi hB)⟩
/-- steps of a call: old memory stays -/
theorem below_step {w w1 w2 : World} (h : Below w.heap.size w w1) (k : Below w1.heap.size w1 w2) : Below w.heap.size w w2 := below_then h h.size k
theorem below_alloc {w w1 : World} (h : Below w.heap.size w w1) (o : Obj) : Below w.heap.size w (w1.alloc o) := h.alloc h.size o
theorem below_only {w w1 w2 : World} {T : Nat → Prop} (h : Below w.heap.size w w1) (k : Only w1 w2 T) (hT : ∀ i, T i → w.heap.size ≤ i) : Below w.heap.size w w2 := Below.then_only h k (Nat.le_refl _) hT

/-! a block of bytes known whole -/
def Blk (w : World) (g : Nat) (l : List UInt8) : Prop := w.heap[g]? = some (.cells (u8s l).toArray 5 (0, 0))
section
variable {w w' : World} {g : Nat} {l : List UInt8}
theorem Blk.lt (h : Blk w g l) : g < w.heap.size := blk_lt h
theorem Blk.cell (h : Blk w g l) (j : Nat) (hj : j < l.length) : w.cell? ⟨g, j, none⟩ = some (.int .u8 ((l.getD j 0).toNat : Int)) := by
  rw [blk_cell h]; simp [u8s, u8, hj]
theorem Blk.free (h : Blk w g l) (j : Nat) : w.frozen? ⟨g, j, none⟩ = false := blk_free h j
theorem Blk.set (h : Blk w g l) (j : Nat) (x : UInt8) : Blk (w.setCell ⟨g, j, none⟩ (.int .u8 (x.toNat : Int))) g (l.set j x) := by
  have h2 := blk_set h j (.int .u8 (x.toNat : Int))
  unfold Blk
  rw [h2]
  simp [u8s, u8, List.map_set]
theorem Blk.only {T : Nat → Prop} (h : Blk w g l) (k : Only w w' T) (hn : ¬ T g) : Blk w' g l := k.blk h hn
theorem Blk.drewN (h : Blk w g l) (n : Nat) : Blk (w.drewN n) g l := h
theorem Blk.bs (h : Blk w g l) (hl : l.length ≤ 140737488355328) : Bs w (some ⟨g, 0, none⟩) l.length l :=
  ⟨Nat.le_refl _, hl, fun i hi => ⟨_, rfl, h.lt, by rw [addr_add_plain]; exact h.cell i hi⟩⟩
end
/-! the same of an array of bytes: its block bears the array's type -/
def BlkT (w : World) (t : TypeId) (g : Nat) (l : List UInt8) : Prop := w.heap[g]? = some (.cells (u8s l).toArray t (0, 0))
section
variable {w w' : World} {t : TypeId} {g : Nat} {l : List UInt8}
theorem BlkT.cell (h : BlkT w t g l) (j : Nat) (hj : j < l.length) : w.cell? ⟨g, j, none⟩ = some (.int .u8 ((l.getD j 0).toNat : Int)) := by
  rw [blk_cell h]; simp [u8s, u8, hj]
theorem BlkT.free (h : BlkT w t g l) (j : Nat) : w.frozen? ⟨g, j, none⟩ = false := blk_free h j
theorem BlkT.set (h : BlkT w t g l) (j : Nat) (x : UInt8) : BlkT (w.setCell ⟨g, j, none⟩ (.int .u8 (x.toNat : Int))) t g (l.set j x) := by
  have h2 := blk_set h j (.int .u8 (x.toNat : Int))
  unfold BlkT
  rw [h2]
  simp [u8s, u8, List.map_set]
theorem BlkT.bs (h : BlkT w t g l) (hl : l.length ≤ 140737488355328) : Bs w (some ⟨g, 0, none⟩) l.length l :=
  ⟨Nat.le_refl _, hl, fun i hi => ⟨_, rfl, blk_lt h, by rw [addr_add_plain]; exact h.cell i hi⟩⟩
end
/-- an own slice of bytes, its block from base on -/
def Own (w : World) (base : Nat) (v : Value) (l : List UInt8) : Prop := w.ownsRow base 5 1 v l.length (u8s l) ∧ l.length ≤ 140737488355328
theorem own_mono {w : World} {b b' e n : Nat} {v : Value} {xs : List Value} (h : w.ownsRow b e 1 v n xs) (hb : b' ≤ b) : w.ownsRow b' e 1 v n xs := by
  refine ⟨h.1, ?_⟩
  rcases h.2 with h2 | ⟨g, cap, cur, hv, hg, r⟩
  · exact .inl h2
  · exact .inr ⟨g, cap, cur, hv, Nat.le_trans hb hg, r⟩
section
variable {w w' : World} {base g : Nat} {v : Value} {l : List UInt8}
theorem Own.nil (w : World) (base : Nat) : Own w base (.slice none 0 0) [] := ⟨⟨by simp [u8s], .inl ⟨rfl, rfl⟩⟩, by simp⟩
theorem Blk.own (h : Blk w g l) (hb : base ≤ g) (hl : l.length ≤ 140737488355328) : Own w base (.slice (some ⟨g, 0, none⟩) l.length l.length) l :=
  ⟨⟨by rw [u8s_len]; omega, .inr ⟨g, l.length, _, rfl, hb, h, Nat.le_refl _, by simp only [maxLen]; omega, by simp [u8s_len], by simp [List.take_of_length_le, u8s_len]⟩⟩, hl⟩
theorem Own.bs (h : Own w base v l) : ∃ A c, v = .slice A l.length c ∧ Bs w A c l := by
  rcases h.1.2 with ⟨rfl, h0⟩ | ⟨g, cap, cur, rfl, hb, hh, hn, hm, hs, ht⟩
  · have : l = [] := List.eq_nil_of_length_eq_zero h0
    subst this
    exact ⟨none, 0, rfl, Bs.nil _ _ _⟩
  · refine ⟨_, cap, rfl, hn, h.2, fun i hi => ⟨_, rfl, blk_lt hh, ?_⟩⟩
    have hc := h.1.cells (g := g) rfl i (.int .u8 ((l.getD i 0).toNat : Int)) (by simp [u8s, u8, hi])
    exact hc
theorem Own.below (h : Own w base v l) (hb : Below w.heap.size w w') : Own w' base v l := by
  refine ⟨⟨h.1.1, ?_⟩, h.2⟩
  rcases h.1.2 with h2 | ⟨g, cap, cur, hv, hg, hh, r⟩
  · exact .inl h2
  · exact .inr ⟨g, cap, cur, hv, hg, (hb.block g (blk_lt hh)).trans hh, r⟩
theorem Own.only {T : Nat → Prop} (h : Own w base v l) (k : Only w w' T) (hn : ∀ i, v.ownBlock = some i → ¬ T i) : Own w' base v l := by
  refine ⟨⟨h.1.1, ?_⟩, h.2⟩
  rcases h.1.2 with h2 | ⟨g, cap, cur, hv, hg, hh, r⟩
  · exact .inl h2
  · exact .inr ⟨g, cap, cur, hv, hg, k.blk hh (hn g (by rw [hv]; rfl)), r⟩
theorem Own.drewN (h : Own w base v l) (n : Nat) : Own (w.drewN n) base v l := h
theorem Own.mono {b' : Nat} (h : Own w base v l) (hb : b' ≤ base) : Own w b' v l := ⟨own_mono h.1 hb, h.2⟩
theorem Own.base_le (h : Own w base v l) {i : Nat} (hi : v.ownBlock = some i) : base ≤ i := by
  rcases h.1.2 with ⟨rfl, _⟩ | ⟨g, cap, cur, rfl, hb, _⟩
  · simp [Value.ownBlock] at hi
  · have : g = i := by simpa [Value.ownBlock] using hi
    omega
end
theorem info_u8 : (Try.prog.info? 5).map (fun i => (i.zero, i.size, i.bytes)) = some (some (.int .u8 0), 1, 1) := by kernel_rfl
theorem size_u8 : (Try.prog.info? 5).map (·.size) = some 1 := by kernel_rfl
theorem madeCells_u8 (m : Nat) : madeCells #[Value.int .u8 0] m = (u8s (List.replicate m 0)).toArray := by
  apply Array.ext_getElem?
  intro i
  by_cases hi : i < m
  · simp [madeCells, hi, Nat.mod_one, u8s, u8]
  · rw [Array.getElem?_eq_none (by rw [size_madeCells]; omega), Array.getElem?_eq_none (by simp [u8s_len]; omega)]
/-- so many zeros, behind a name that the walk does not open -/
def zs (m : Nat) : List UInt8 := List.replicate m 0
/-- make([]byte, m) -/
theorem make_u8 (m : Nat) (hm : m ≤ 140737488355328) (W : World) : (Instr.makeSlice 27 (.int .i64 (m : Int)) (.int .i64 (m : Int))).run Try.prog W = .ok (.slice (some ⟨W.heap.size, 0, none⟩) m m) (W.alloc (.cells (u8s (zs m)).toArray 5)) := by
  have h := run_make_row' (P := Try.prog) 27 5 (.int .u8 0) 1 Try.underlying27 info_u8 rfl .i64 .i64 m (by omega) (by omega) W
  rw [madeCells_u8] at h
  exact h
theorem blk_made (W : World) (m : Nat) : Blk (W.alloc (.cells (u8s (zs m)).toArray 5)) W.heap.size (List.replicate m 0) := blk_new _ _
theorem splice_get {L l : List UInt8} {o m i : Nat} (hl : l.length = m) (hn : o + m ≤ L.length) : (L.take o ++ l ++ L.drop (o + m))[i]? = if i < o then L[i]? else if i < o + m then l[i - o]? else L[i]? := by
  have h1 : (L.take o).length = o := by rw [List.length_take]; omega
  by_cases hi : i < o
  · rw [if_pos hi, List.append_assoc, List.getElem?_append_left (by omega), List.getElem?_take, if_pos hi]
  · rw [if_neg hi]
    by_cases hi2 : i < o + m
    · rw [if_pos hi2, List.append_assoc, List.getElem?_append_right (by omega), List.getElem?_append_left (by omega), h1]
    · rw [if_neg hi2, List.getElem?_append_right (by rw [List.length_append]; omega), List.getElem?_drop]
      congr 1
      rw [List.length_append]; omega
/-- copy onto a block known whole, from place o on -/
theorem copy_u8 {w : World} {g o n dc c : Nat} {L l : List UInt8} {A : Option Addr} (hb : Blk w g L) (hs : Bs w A c l) (hn : o + n ≤ L.length) (ty : TypeId) :
    ∃ w', (Builtin.copy_ #[27, 27] ty #[.slice (some ⟨g, o, none⟩) n dc, .slice A l.length c]).run Try.prog w = .ok (goInt (Nat.min l.length n)) w' ∧
      Blk w' g (L.take o ++ l.take (Nat.min l.length n) ++ L.drop (o + Nat.min l.length n)) ∧ Only w w' (fun k => k = g) := by
  have hmin : Nat.min l.length n ≤ l.length ∧ Nat.min l.length n ≤ n := ⟨Nat.min_le_left _ _, Nat.min_le_right _ _⟩
  generalize hm : Nat.min l.length n = m at *
  by_cases h0 : m = 0
  · subst h0
    refine ⟨w, ?_, by simpa using hb, Only.refl _ _⟩
    exact run_copy_none (P := Try.prog) w _ _ ty 5 _ _ _ _ _ _ Try.underlying27 size_u8 hm
  · obtain ⟨ad, rfl⟩ : ∃ ad, A = some ad := by
      obtain ⟨ad, e, _⟩ := hs.at_ 0 (by omega)
      exact ⟨ad, e⟩
    have hlen : (u8s (l.take m)).length = m := by rw [u8s_len, List.length_take]; omega
    have hrun := run_copy_cells (P := Try.prog) w 27 27 ty 5 g o n dc ad l.length c (u8s (l.take m)) Try.underlying27 size_u8 (by rw [hlen, hm])
      (fun j v hv => by
        have hj : j < m := by
          rcases Nat.lt_or_ge j m with h1 | h1
          · exact h1
          · rw [List.getElem?_eq_none (by omega)] at hv; cases hv
        refine hs.cells rfl j v ?_
        rw [← hv]
        simp [u8s, hj])
      (fun j hj => by rw [hb.cell (o + j) (by omega)]; rfl) (fun j hj => hb.free _)
      (fun v hv => by simp only [u8s, u8, List.mem_map] at hv; obtain ⟨q, _, rfl⟩ := hv; rfl)
    obtain ⟨⟨c2, h1, h2, h3⟩, h4⟩ := setCells_blk (u8s (l.take m)) o w _ hb (by simp [u8s_len]; omega)
    have hn2 : o + m ≤ L.length := by omega
    have hc2 : c2 = (u8s (L.take o ++ l.take m ++ L.drop (o + m))).toArray := by
      apply Array.ext_getElem?
      intro i
      rw [h3, hlen]
      have e0 : (u8s (L.take o ++ l.take m ++ L.drop (o + m))).toArray[i]? = (L.take o ++ l.take m ++ L.drop (o + m))[i]?.map u8 := u8s_arr _ _
      have e1 : (u8s L).toArray[i]? = L[i]?.map u8 := u8s_arr _ _
      have e2 : (u8s (l.take m))[i - o]? = (l.take m)[i - o]?.map u8 := u8s_at _ _
      rw [e0, e1, e2, splice_get (by rw [List.length_take]; omega) hn2]
      by_cases hi : i < o
      · rw [if_neg (by omega), if_pos hi]
      · by_cases hi2 : i < o + m
        · rw [if_pos (by omega), if_neg hi, if_pos hi2]
        · rw [if_neg (by omega), if_neg hi, if_neg hi2]
    refine ⟨_, by rw [hrun, hlen], ?_, h4⟩
    unfold Blk
    rw [h1, hc2]
/-- what a function answers that makes a list of bytes -/
def Ret (w : World) (l : List UInt8) (e : Ending) (w' : World) : Prop := ∃ v, e = .returned v ∧ Own w' w.heap.size v l ∧ Below w.heap.size w w'
theorem kind_u8 (x i : Nat) : IntKind.u8.wrap (((x / 2 ^ (8 * i) : Nat)) : Int) = ((UInt8.ofNat (x / 2 ^ (8 * i))).toNat : Int) := by
  rw [IntKind.wrap_u8]
  simp only [UInt8.toNat_ofNat']
  omega
theorem kind8 (x i : Nat) : IntKind.u8.wrap ((x : Int) / 2 ^ (8 * i)) = ((UInt8.ofNat (x / 2 ^ (8 * i))).toNat : Int) := by
  rw [← kind_u8]; push_cast; rfl
/-- numbers as bytes, highest first -/
def be : Nat → Nat → List UInt8
  | 0, _ => []
  | n + 1, x => UInt8.ofNat (x / 2 ^ (8 * n)) :: be n x
theorem be_len (n x : Nat) : (be n x).length = n := by induction n with
  | zero => rfl
  | succ n ih => simp [be, ih]
theorem be_step (L : List UInt8) (n i x : Nat) (hi : i < n) : (L ++ List.replicate (n - i) 0 ++ be i x).set (L.length + n - 1 - i) (UInt8.ofNat (x / 2 ^ (8 * i))) = L ++ List.replicate (n - (i + 1)) 0 ++ be (i + 1) x := by
  obtain ⟨m, rfl⟩ : ∃ m, n = i + 1 + m := ⟨n - i - 1, by omega⟩
  rw [show i + 1 + m - i = m + 1 by omega, show i + 1 + m - (i + 1) = m by omega, show L.length + (i + 1 + m) - 1 - i = L.length + m by omega]
  rw [List.replicate_succ', ← List.append_assoc, List.append_assoc (L ++ List.replicate m 0), List.set_append_right _ _ (by simp)]
  simp [be]
theorem be_step2 (R : List UInt8) (n i x : Nat) (hi : i < n) : (List.replicate (n - i) 0 ++ be i x ++ R).set (n - 1 - i) (UInt8.ofNat (x / 2 ^ (8 * i))) = List.replicate (n - (i + 1)) 0 ++ be (i + 1) x ++ R := by
  have h := be_step [] n i x hi
  simp only [List.nil_append, List.length_nil, Nat.zero_add] at h
  rw [List.set_append_left _ _ (by simp [be_len]; omega), h]
end Go.Proofs.Ytnhfeoniiadjfaa.K
/- The walks of package bits: width and Put at each kind of number. -/
namespace Go.Proofs.Ytnhfeoniiadjfaa.Bits
open Go.RowKit Go.Proofs.Ytnhfeoniiadjfaa.K
set_option linter.unusedVariables false


set_option maxRecDepth 100000 in
theorem width_uint8 (w : World) : Calls Try.prog 73 #[] w fun e w' => e = .returned (.int .i64 1) ∧ w = w' := by
  go_enter Try.func73, Try.ntmps73
  go_wp2_with fail
  go_loopg [1, 2] 1 (fun gk n x wr => wr = w ∧ ((gk = 1 ∧ n = .int .i64 0 ∧ x = .int .u64 255) ∨ (gk = 0 ∧ n = .int .i64 1 ∧ x = .int .u64 0)))
  case atStart => exact ⟨rfl, .inl ⟨rfl, rfl, rfl⟩⟩
  case round =>
    obtain ⟨rfl, h⟩ := hrel
    rcases h with ⟨rfl, rfl, rfl⟩ | ⟨rfl, rfl, rfl⟩
    · go_wp2_with fail
      go_roundg 0
      case measure => omega
      case rel => exact ⟨rfl, .inr (⟨rfl, rfl, rfl⟩)⟩
    · go_wp2_with fail
      go_ret
      exact ⟨rfl, rfl⟩

set_option maxRecDepth 100000 in
theorem put_uint8 (A : Option Addr) (c : Nat) (l : List UInt8) (x : Nat) (w : World) (hs : Bs w A c l) (hl : l.length ≤ 140737488351232) (hx : x < 256) :
    Calls Try.prog 48 #[.slice A l.length c, .int .u8 (x : Int)] w (Ret w (l ++ be 1 x)) := by
  have hmk := fun W => make_u8 (l.length + 1) (by omega) W
  have hL := blk_made w (l.length + 1)
  obtain ⟨w2, hcopy, hb2, ho2⟩ := copy_u8 (n := l.length + 1) (dc := l.length + 1) (o := 0) hL (hs.below ((Below.refl _ _).alloc (Nat.le_refl _) _)) (by simp) 3
  have HB2 : Hid (Blk w2 w.heap.size (l ++ List.replicate 1 0) ∧ Below w.heap.size w w2) := by
    have hm : Nat.min l.length (l.length + 1) = l.length := Nat.min_eq_left (by omega)
    rw [hm] at hb2
    refine ⟨?_, below_only ((Below.refl _ _).alloc (Nat.le_refl _) _) ho2 (fun i hi => by rw [hi]; exact Nat.le_refl _)⟩
    simpa [List.take_of_length_le] using hb2
  have hln : l.length ≤ 9223372036854775000 := by omega
  have hmk2 : ∀ W : World, (Instr.makeSlice 27 (.int .i64 ((l.length : Int) + 1)) (.int .i64 ((l.length : Int) + 1))).run Try.prog W = .ok (.slice (some ⟨W.heap.size, 0, none⟩) (l.length + 1) (l.length + 1)) (W.alloc (.cells (u8s (zs (l.length + 1))).toArray 5)) := fun W => by
    have h := hmk W
    push_cast at h
    exact h
  clear hmk hL hb2 ho2
  have HS := Lib.hid hs
  clear hs
  go_enter Try.func48, Try.ntmps48
  go_wp2_with (go_at_call 73; refine (width_uint8 _).mono ?_; rintro e w' ⟨rfl, rfl⟩)
  go_loopg [18] 1 (fun gk i wr => ∃ j : Nat, j ≤ 1 ∧ gk = 1 - j ∧ i = .int .i64 (j : Int) ∧ Blk wr w.heap.size (l ++ List.replicate (1 - j) 0 ++ be j x) ∧ Below w.heap.size w wr)
  case atStart => exact ⟨0, by omega, rfl, rfl, by simpa [be] using HB2.out.1, HB2.out.2⟩
  case round =>
    obtain ⟨j, hj, rfl, rfl, hb, hbel⟩ := hrel
    have HB := Lib.hid hb
    have HBL := Lib.hid hbel
    have HLN := Lib.hid (show (l ++ List.replicate (1 - j) 0 ++ be j x).length = l.length + 1 by simp [be_len]; omega)
    clear hb hbel
    by_cases hlt : j < 1
    · have hlt2 : (j : Int) < 1 := by omega
      have hc1 := HB.out.cell (l.length - j) (by rw [HLN.out]; omega)
      have hf1 := HB.out.free (l.length - j)
      have hw : IntKind.u8.wrap ((x : Int) / 2 ^ (8 * j)) = ((UInt8.ofNat (x / 2 ^ (8 * j))).toNat : Int) := kind8 x j
      have HST := Lib.hid (be_step l 1 j x hlt)
      rw [show l.length + 1 - 1 - j = l.length - j by omega] at HST
      have HSET := Lib.hid (HB.out.set (l.length - j) (UInt8.ofNat (x / 2 ^ (8 * j))))
      generalize UInt8.ofNat (x / 2 ^ (8 * j)) = y at hw HST HSET
      generalize (l ++ List.replicate (1 - j) 0 ++ be j x).getD (l.length - j) 0 = z at hc1
      go_wp2_with fail
      go_roundg (1 - (j + 1))
      case measure => omega
      case rel =>
        refine ⟨j + 1, by omega, rfl, by go_num, ?_, below_only HBL.out ((Only.refl wr (fun k => k = w.heap.size)).setCell (p := ⟨w.heap.size, _, none⟩) (.inl rfl) _) (fun i hi => by rw [hi]; exact Nat.le_refl _)⟩
        rw [← HST.out]
        exact HSET.out
    · obtain rfl : j = 1 := by omega
      go_wp2_with fail
      go_ret
      have h := HB.out
      simp only [Nat.sub_self, List.replicate_zero, List.append_nil] at h
      have h2 := h.own (base := w.heap.size) (Nat.le_refl _) (by simp [be_len]; omega)
      have hl2 : (l ++ be 1 x).length = l.length + 1 := by simp [be_len]
      rw [hl2] at h2
      exact ⟨_, rfl, h2, HBL.out⟩

end Go.Proofs.Ytnhfeoniiadjfaa.Bits
/- The walks of the document's helpers: SameBytes, Bytes; of bytes.Equal. -/
namespace Go.Proofs.Ytnhfeoniiadjfaa.Help
open Go.RowKit Go.Proofs.Ytnhfeoniiadjfaa.K
set_option linter.unusedVariables false

/-- a pure answer: old memory stays -/
def Pure (w : World) (v : Value) (e : Ending) (w' : World) : Prop := e = .returned v ∧ Below w.heap.size w w'
theorem quiet_pure {w : World} {v : Value} {e : Ending} {w' : World} (h : Quiet v w e w') : Pure w v e w' := by
  obtain ⟨n, rfl, rfl⟩ := h; exact ⟨rfl, below_drewN (Below.refl _ _) n⟩
theorem take_snoc8 {l : List UInt8} {i : Nat} (h : i < l.length) : l.take (i + 1) = l.take i ++ [l.getD i 0] := by
  rw [List.take_succ_eq_append_getElem h]; simp [h]

set_option maxRecDepth 100000 in
theorem sameBytes (A B : Option Addr) (c d : Nat) (l m : List UInt8) (w : World) (ha : Bs w A c l) (hb : Bs w B d m) :
    Calls Try.prog 15 #[.slice A l.length c, .slice B m.length d] w (Quiet (.bool (decide (l = m))) w) := by
  have HA := Lib.hid ha
  have HB := Lib.hid hb
  have h1 := ha.max
  have h2 := hb.max
  clear ha hb
  obtain ⟨t, ht⟩ : ∃ t, decide (l = m) = t := ⟨_, rfl⟩
  rw [ht]
  have HT := Lib.hid ht
  clear ht
  by_cases hl : l.length = m.length
  · have hne : ((l.length : Int) != m.length) = false := by rw [bne_eq_false_iff_eq]; omega
    have HLL := Lib.hid hl
    clear hl
    go_enter Try.func15, Try.ntmps15
    go_wp2_with fail
    go_loopg [5] l.length (fun gk i wr => ∃ k : Nat, k ≤ l.length ∧ gk = l.length - k ∧ i = .int .i64 (k : Int) ∧ l.take k = m.take k ∧ ∃ q, wr = w.drewN q)
    case atStart => exact ⟨0, by omega, rfl, rfl, by simp, 0, rfl⟩
    case round =>
      obtain ⟨k, hk, rfl, rfl, hT, q, rfl⟩ := hrel
      have HTK := Lib.hid hT
      clear hT
      by_cases hlt : k < l.length
      · have hlm : k < m.length := by rw [← HLL.out]; exact hlt
        obtain ⟨ad, e1, _, c1⟩ := HA.out.at_ k hlt
        obtain ⟨bd, e2, _, c2⟩ := HB.out.at_ k hlm
        subst e1 e2
        have hkm : (k : Int) < m.length := by omega
        by_cases hx : l.getD k 0 = m.getD k 0
        · have hx1 : (((l.getD k 0).toNat : Int) != (m.getD k 0).toNat) = false := by rw [hx]; simp
          have HN := Lib.hid (show l.take (k + 1) = m.take (k + 1) by rw [take_snoc8 hlt, take_snoc8 hlm, HTK.out, hx])
          clear hx
          generalize l.getD k 0 = x at *
          generalize m.getD k 0 = y at *
          go_wp2_with fail
          go_quiet (fail)
          go_wp2_with fail
          go_roundg (l.length - (k + 1))
          case measure => omega
          case rel => exact ⟨k + 1, by omega, rfl, by go_num, HN, _, rfl⟩
        · have hx1 : (((l.getD k 0).toNat : Int) != (m.getD k 0).toNat) = true := by
            rw [bne_iff_ne]; intro h; exact hx (UInt8.toNat_inj.1 (by omega))
          have HF : Hid (t = false) := by rw [Hid, ← HT.out]; exact decide_eq_false (fun e => hx (by rw [e]))
          clear hx
          generalize l.getD k 0 = x at *
          generalize m.getD k 0 = y at *
          go_wp2_with fail
          go_quiet (fail)
          go_wp2_with fail
          go_ret
          exact ⟨q + nq, ret_bool HF.out.symm, World.drewN_drewN ..⟩
      · obtain rfl : k = l.length := by omega
        have HF : Hid (t = true) := by
          have h := HTK.out
          rw [List.take_of_length_le (by omega), List.take_of_length_le (by rw [HLL.out]; omega)] at h
          rw [Hid, ← HT.out]; exact decide_eq_true h
        go_wp2_with fail
        go_ret
        exact ⟨_, ret_bool HF.out.symm, rfl⟩
  · have hne : ((l.length : Int) != m.length) = true := by rw [bne_iff_ne]; omega
    have HF : Hid (t = false) := by rw [Hid, ← HT.out]; exact decide_eq_false (fun e => hl (by rw [e]))
    clear hl
    go_enter Try.func15, Try.ntmps15
    go_wp2_with fail
    go_ret
    exact ⟨0, ret_bool HF.out.symm, rfl⟩

/-- an own row of bytes with one more -/
theorem Own.push {w1 : World} {base : Nat} {v1 : Value} {l : List UInt8} {b : UInt8} (h : w1.ownsRow base 5 1 v1 (l.length + 1) (u8s l ++ [.int .u8 (b.toNat : Int)])) (hl : l.length + 1 ≤ 140737488355328) : Own w1 base v1 (l ++ [b]) := by
  refine ⟨?_, by simp; omega⟩
  rw [u8s_snoc]; simpa using h

section
variable {P : Program} {ops : Array Oper} {rest : List Oper} {o : Oper} {a : Act} {Q : Exit → Act → World → Prop}
/-- append(v, b), v a slice of bytes of the call's own, from block B on: what is known behind it -/
theorem push_at {B : Nat} {W0 W : World} (hgd : o.guard = none) (s x : Operand)
    (ho : o.op = .call { callee := .builtin .append, args := #[s, x], argTypes := #[27, 27] })
    (v : Value) (l : List UInt8) (b : UInt8) (hs : a.eval s = v) (hx : a.eval x = .slice (some ⟨W.heap.size, 0, none⟩) 1 1)
    (HO : Own W B v l) (HB : Below B W0 W) (hBW : B ≤ W.heap.size) (hl : l.length + 1 ≤ 140737488355328)
    (h : ∀ A c w1, Own w1 B (.slice A (l.length + 1) c) (l ++ [b]) → Below B W0 w1 → wpList Try.prog ops Q rest (a.put o.dst (.slice A (l.length + 1) c)) w1) :
    wpList Try.prog ops Q (o :: rest) a (W.alloc (.cells #[.int .u8 (b.toNat : Int)] 5)) := by
  obtain ⟨i0, hi, hzz⟩ := Option.map_eq_some_iff.1 info_u8
  simp only [Prod.mk.injEq] at hzz
  obtain ⟨hz0, hz1, hz2⟩ := hzz
  refine wpList_append_own_at (W.alloc (.cells #[.int .u8 (b.toNat : Int)] 5)) hgd s x _ ho B 5 i0 (.int .u8 0) 1 1 Try.underlying27 hi hz0 hz1 hz2 rfl (by omega) v l.length (u8s l) hs (HO.1.alloc _) ⟨W.heap.size, 0, none⟩ 1 1 [.int .u8 (b.toNat : Int)] hx rfl
    (World.news_of_block (cs := #[.int .u8 (b.toNat : Int)]) (t := 5) (fr := (0, 0)) (heap_alloc_new W _)) (by intro u hu; simp at hu; rw [hu]; rfl) (by simp only [maxLen]; omega) (by omega) (by simp; omega) ?_
  intro v1 w1 hown hg _ hat
  have hO := Own.push hown hl
  obtain ⟨A, c, rfl, _⟩ := hO.bs
  have e : (l ++ [b]).length = l.length + 1 := by simp
  rw [e] at hO ⊢
  exact h A c w1 hO ((HB.alloc hBW _).grown hg (by simp; omega) (fun k hk => HO.base_le hk))
theorem push_u8 {W0 W : World} (hgd : o.guard = none) (s x : Operand)
    (ho : o.op = .call { callee := .builtin .append, args := #[s, x], argTypes := #[27, 27] })
    (v : Value) (l : List UInt8) (b : UInt8) (hs : a.eval s = v) (hx : a.eval x = .slice (some ⟨W.heap.size, 0, none⟩) 1 1)
    (HO : Own W W0.heap.size v l) (HB : Below W0.heap.size W0 W) (hl : l.length + 1 ≤ 140737488355328)
    (h : ∀ A c w1, Own w1 W0.heap.size (.slice A (l.length + 1) c) (l ++ [b]) → Below W0.heap.size W0 w1 → wpList Try.prog ops Q rest (a.put o.dst (.slice A (l.length + 1) c)) w1) :
    wpList Try.prog ops Q (o :: rest) a (W.alloc (.cells #[.int .u8 (b.toNat : Int)] 5)) := push_at hgd s x ho v l b hs hx HO HB HB.size hl h
end

set_option maxRecDepth 100000 in
theorem bytes (A : Option Addr) (c : Nat) (l : List UInt8) (w : World) (ha : Bs w A c l) :
    Calls Try.prog 36 #[.slice A l.length c] w (Ret w l) := by
  have HA := Lib.hid ha
  have h1 := ha.max
  clear ha
  go_enter Try.func36, Try.ntmps36
  go_wp2_with fail
  go_loopg [3, 4] l.length (fun gk v i wr => ∃ k : Nat, k ≤ l.length ∧ gk = l.length - k ∧ i = .int .i64 (k : Int) ∧ Own wr w.heap.size v (l.take k) ∧ Below w.heap.size w wr)
  case atStart => exact ⟨0, by omega, rfl, rfl, by simpa using Own.nil w _, Below.refl _ _⟩
  case round =>
    obtain ⟨k, hk, rfl, rfl, hO, hB⟩ := hrel
    obtain ⟨VA, vc, rfl, _⟩ := hO.bs
    have hlk : (l.take k).length = k := by rw [List.length_take]; omega
    have HO := Lib.hid hO
    have HB := Lib.hid hB
    clear hO hB
    rw [hlk] at HO
    rw [hlk]
    by_cases hlt : k < l.length
    · obtain ⟨ad, e1, hlt2, c1⟩ := HA.out.at_ k hlt
      subst e1
      have c2 := (HB.out.cell (p := ad.add k) (by rw [addr_add_block]; exact hlt2)).trans c1
      have HX := Lib.hid (take_snoc8 hlt)
      have HK := Lib.hid hlk
      clear c1 hlk hlt2
      generalize l.getD k 0 = x at *
      go_wp2_with (at_builtin; refine push_u8 (W0 := w) rfl (.tmp 11) (.tmp 16) rfl (.slice VA k vc) (l.take k) x rfl rfl HO.out HB.out (by rw [HK.out]; omega) ?_; intro A1 c1 w1 hO1 hB1; rw [HK.out] at hO1 ⊢; have HO1 := Lib.hid hO1; have HB1 := Lib.hid hB1; clear hO1 hB1)
      go_roundg (l.length - (k + 1))
      case measure => omega
      case rel =>
        refine ⟨k + 1, by omega, rfl, by go_num, ?_, HB1.out⟩
        rw [HX.out]; exact HO1.out
    · obtain rfl : k = l.length := by omega
      go_wp2_with fail
      go_ret
      refine ⟨_, rfl, ?_, HB.out⟩
      have := HO.out
      rwa [List.take_of_length_le (by omega)] at this
end Go.Proofs.Ytnhfeoniiadjfaa.Help
/- The walks of the document's number and read (culvertref15). -/
namespace Go.Proofs.Ytnhfeoniiadjfaa.Help
open Go.RowKit Go.Proofs.Ytnhfeoniiadjfaa.K
set_option linter.unusedVariables false

theorem be_get (n x j : Nat) (h : j < n) : (be n x).getD j 0 = UInt8.ofNat (x / 2 ^ (8 * (n - 1 - j))) := by
  induction n generalizing j with
  | zero => omega
  | succ n ih =>
    cases j with
    | zero => simp [be]
    | succ j =>
      have := ih j (by omega)
      simp only [be, List.getD_cons_succ]
      rw [this]
      congr 3
      omega
/-- the number that bytes say, the highest first -/
def val (l : List UInt8) : Nat := l.foldl (fun x b => x * 256 + b.toNat) 0
theorem val_snoc (l : List UInt8) (b : UInt8) : val (l ++ [b]) = val l * 256 + b.toNat := by simp [val]
theorem val_aux (l : List UInt8) : ∀ x : Nat, l.foldl (fun x b => x * 256 + b.toNat) x < (x + 1) * 256 ^ l.length := by
  induction l with
  | nil => intro x; simp
  | cons b l ih =>
    intro x
    have h := ih (x * 256 + b.toNat)
    have hb := b.toNat_lt
    have h2 : (x * 256 + b.toNat + 1) * 256 ^ l.length ≤ ((x + 1) * 256) * 256 ^ l.length := Nat.mul_le_mul_right _ (by omega)
    simp only [List.foldl_cons, List.length_cons, Nat.pow_succ]
    have h3 : (x + 1) * (256 ^ l.length * 256) = ((x + 1) * 256) * 256 ^ l.length := by rw [Nat.mul_comm (256 ^ l.length) 256, Nat.mul_assoc]
    omega
theorem val_lt (l : List UInt8) : val l < 256 ^ l.length := by
  have := val_aux l 0
  simpa [val] using this
theorem val_small {l : List UInt8} {k : Nat} (h : l.length ≤ k) (hk : k ≤ 7) : val l < 72057594037927936 :=
  Nat.lt_of_lt_of_le (val_lt l) (Nat.le_trans (Nat.pow_le_pow_right (by omega) (show l.length ≤ 7 by omega)) (by decide))
theorem or_byte (v : Nat) (b : UInt8) (hv : v < 72057594037927936) : bits .or .u64 ((v : Int) * 256) ((b.toNat : Int)) = ((v * 256 + b.toNat : Nat) : Int) := by
  have hb := b.toNat_lt
  have h := bor_eq (a := v * 256) (b := b.toNat) (by unfold B64; omega) (by unfold B64; omega)
  have e : bor (v * 256) b.toNat = v * 256 + b.toNat := by
    unfold bor
    have := Nat.shiftLeft_add_eq_or_of_lt (i := 8) (b := b.toNat) (by omega) v
    rw [Nat.shiftLeft_eq] at this
    simpa using this.symm
  rw [e] at h
  simpa using h
def rdAt (l : List UInt8) (at_ n : Nat) : Nat := if l.length < at_ + n then 0 else val ((l.drop at_).take n)

end Go.Proofs.Ytnhfeoniiadjfaa.Help
/- The walks of stamps: Valid, Put, Get of package stamp and of culvertref6. -/
namespace Go.Proofs.Ytnhfeoniiadjfaa.Help
open Go.RowKit Go.Proofs.Ytnhfeoniiadjfaa.K
set_option linter.unusedVariables false

def stV (sec nano : Int) : Bool := decide (0 ≤ sec) && (decide (0 ≤ nano) && decide (nano ≤ 999999999))
theorem stV_cases (sec nano : Int) : (sec < 0 ∧ stV sec nano = false) ∨ (0 ≤ sec ∧ nano < 0 ∧ stV sec nano = false) ∨ (0 ≤ sec ∧ 0 ≤ nano ∧ ¬ nano ≤ 999999999 ∧ stV sec nano = false) ∨ (0 ≤ sec ∧ 0 ≤ nano ∧ nano ≤ 999999999 ∧ stV sec nano = true) := by
  unfold stV
  by_cases h1 : 0 ≤ sec
  · by_cases h2 : 0 ≤ nano
    · by_cases h3 : nano ≤ 999999999
      · exact .inr (.inr (.inr ⟨h1, h2, h3, by simp [h1, h2, h3]⟩))
      · exact .inr (.inr (.inl ⟨h1, h2, h3, by simp [h3]⟩))
    · exact .inr (.inl ⟨h1, by omega, by simp [h2]⟩)
  · exact .inl ⟨by omega, by simp [h1]⟩

/-- old cells read as before behind a call that leaves old memory -/
theorem bcell {W w1 : World} (hb : Below W.heap.size W w1) : (∀ b o, b < W.heap.size → w1.cell? ⟨b, o, none⟩ = W.cell? ⟨b, o, none⟩) ∧ (∀ b o, b < W.heap.size → w1.frozen? ⟨b, o, none⟩ = W.frozen? ⟨b, o, none⟩) :=
  ⟨fun b o h => hb.cell (p := ⟨b, o, none⟩) h, fun b o h => hb.frozen (p := ⟨b, o, none⟩) h⟩
def stPut (sec nano : Nat) : List UInt8 := be 8 sec ++ be 4 nano

end Go.Proofs.Ytnhfeoniiadjfaa.Help
/- The walks of bits.Reader: NewReader, take, Bytes, Left, Get. -/
namespace Go.Proofs.Ytnhfeoniiadjfaa.Help
open Go.RowKit Go.Proofs.Ytnhfeoniiadjfaa.K
set_option linter.unusedVariables false

/-- a reader at block g over a copy of L at block rb -/
structure Rdr (w : World) (g rb : Nat) (L : List UInt8) (p : Nat) (err : Int) : Prop where
  b : w.heap[g]? = some (.cells #[.slice (some ⟨rb, 0, none⟩) L.length L.length, .int .i64 (p : Int), .int .i64 err] 129 (0, 0))
  r : Blk w rb L
  le : p ≤ L.length
  max : L.length ≤ 140737488355328
section
variable {w w' : World} {g rb p : Nat} {L : List UInt8} {err : Int}
theorem Rdr.c0 (h : Rdr w g rb L p err) : w.cell? ⟨g, 0, none⟩ = some (.slice (some ⟨rb, 0, none⟩) L.length L.length) := (blk_cell h.b 0).trans rfl
theorem Rdr.c1 (h : Rdr w g rb L p err) : w.cell? ⟨g, 1, none⟩ = some (.int .i64 (p : Int)) := (blk_cell h.b 1).trans rfl
theorem Rdr.c2 (h : Rdr w g rb L p err) : w.cell? ⟨g, 2, none⟩ = some (.int .i64 err) := (blk_cell h.b 2).trans rfl
theorem Rdr.f (h : Rdr w g rb L p err) (j : Nat) : w.frozen? ⟨g, j, none⟩ = false := blk_free h.b j
theorem Rdr.ne (h : Rdr w g rb L p err) : g ≠ rb := blk_ne h.b h.r (by decide)
theorem Rdr.only {T : Nat → Prop} (h : Rdr w g rb L p err) (k : Only w w' T) (h1 : ¬ T g) (h2 : ¬ T rb) : Rdr w' g rb L p err := ⟨k.blk h.b h1, h.r.only k h2, h.le, h.max⟩
theorem Rdr.below (h : Rdr w g rb L p err) (hb : Below w.heap.size w w') : Rdr w' g rb L p err := ⟨(hb.block g (blk_lt h.b)).trans h.b, (hb.block rb (blk_lt h.r)).trans h.r, h.le, h.max⟩
theorem Rdr.drewN (h : Rdr w g rb L p err) (n : Nat) : Rdr (w.drewN n) g rb L p err := ⟨h.b, h.r, h.le, h.max⟩
theorem Rdr.setErr (h : Rdr w g rb L p err) (e : Int) : Rdr (w.setCell ⟨g, 2, none⟩ (.int .i64 e)) g rb L p e :=
  ⟨by have := blk_set h.b 2 (.int .i64 e); simpa using this, blk_far h.r h.ne.symm _, h.le, h.max⟩
theorem Rdr.setAt (h : Rdr w g rb L p err) (q : Nat) (hq : q ≤ L.length) : Rdr (w.setCell ⟨g, 1, none⟩ (.int .i64 (q : Int))) g rb L q err :=
  ⟨by have := blk_set h.b 1 (.int .i64 (q : Int)); simpa using this, blk_far h.r h.ne.symm _, hq, h.max⟩
end
/-- what NewReader answers -/
def NewR (w : World) (L : List UInt8) (e : Ending) (w' : World) : Prop :=
  ∃ g rb, e = .returned (.pointer (some ⟨g, 0, none⟩)) ∧ Rdr w' g rb L 0 0 ∧ Below w.heap.size w w' ∧ w.heap.size ≤ g ∧ w.heap.size ≤ rb
set_option maxRecDepth 100000 in
theorem newReader (A : Option Addr) (c : Nat) (l : List UInt8) (w : World) (ha : Bs w A c l) :
    Calls Try.prog 67 #[.slice A l.length c] w (NewR w l) := by
  have hm := ha.max
  have hmk := fun W => make_u8 l.length hm W
  have h1 : Blk ((w.alloc (.cells (u8s (zs l.length)).toArray 5)).alloc (.cells #[.slice (some ⟨w.heap.size, 0, none⟩) l.length l.length, .int .i64 0, .int .i64 0] 129)) w.heap.size (List.replicate l.length 0) := blk_alloc (blk_made w l.length) _
  have hb2 : Below w.heap.size w ((w.alloc (.cells (u8s (zs l.length)).toArray 5)).alloc (.cells #[.slice (some ⟨w.heap.size, 0, none⟩) l.length l.length, .int .i64 0, .int .i64 0] 129)) := below_alloc (below_alloc (Below.refl _ _) _) _
  obtain ⟨w2, hcopy, hb3, ho3⟩ := copy_u8 (n := l.length) (dc := l.length) (o := 0) h1 (ha.below hb2) (by simp) 3
  have hg : ((w.alloc (.cells (u8s (zs l.length)).toArray 5)).alloc (.cells #[.slice (some ⟨w.heap.size, 0, none⟩) l.length l.length, .int .i64 0, .int .i64 0] 129)).heap[w.heap.size + 1]? = some (.cells #[.slice (some ⟨w.heap.size, 0, none⟩) l.length l.length, .int .i64 0, .int .i64 0] 129 (0, 0)) := by
    have := blk_new (w.alloc (.cells (u8s (zs l.length)).toArray 5)) (.cells #[.slice (some ⟨w.heap.size, 0, none⟩) l.length l.length, .int .i64 0, .int .i64 0] 129)
    simpa using this
  have HF : Hid (NewR w l (.returned (.pointer (some ⟨w.heap.size + 1, 0, none⟩))) w2) := by
    have hmin : Nat.min l.length l.length = l.length := Nat.min_self _
    rw [hmin, List.take_of_length_le (l := l) (by omega)] at hb3
    simp only [List.take_zero, List.nil_append, Nat.zero_add, List.drop_replicate, Nat.sub_self, List.replicate_zero, List.append_nil] at hb3
    exact ⟨w.heap.size + 1, w.heap.size, rfl, ⟨ho3.blk hg (by omega), hb3, by omega, hm⟩, below_only hb2 ho3 (fun i hi => by rw [hi]; exact Nat.le_refl _), by omega, by omega⟩
  clear ha h1 hb2 hb3 ho3 hg
  go_enter Try.func67, Try.ntmps67
  go_wp2_with fail
  go_ret
  exact HF.out

/-- what is left of a reader's bytes -/
def cutN (L : List UInt8) (p n : Nat) : List UInt8 := (L.drop p).take n
/-- what take does to a reader: bytes, ok, the place and the error behind -/
def takes (L : List UInt8) (p n : Nat) (err : Int) : List UInt8 × Bool × Nat × Int :=
  if err ≠ 0 then ([], false, p, err) else if L.length - p < n then ([], false, p, 10) else (cutN L p n, true, p + n, 0)
/-- the address lies in this block -/
def At (A : Option Addr) (b : Nat) : Prop := ∀ ad, A = some ad → ad.block = b
/-- the address lies in new memory -/
def Nw (w : World) (A : Option Addr) : Prop := ∀ ad, A = some ad → w.heap.size ≤ ad.block
theorem Nw.none (w : World) : Nw w none := fun _ h => by cases h
theorem Nw.back {w w' : World} {A : Option Addr} (h : Nw w' A) (hb : w.heap.size ≤ w'.heap.size) : Nw w A := fun ad e => Nat.le_trans hb (h ad e)
theorem At.nw {w : World} {A : Option Addr} {b : Nat} (h : At A b) (hb : w.heap.size ≤ b) : Nw w A := fun ad e => by rw [h ad e]; exact hb
theorem Own.nw {w w' : World} {A : Option Addr} {n c : Nat} {l : List UInt8} {base : Nat} (h : Own w' base (.slice A n c) l) (hb : w.heap.size ≤ base) : Nw w A := fun ad e => by
  subst e
  rcases h.1.2 with ⟨h1, _⟩ | ⟨g, cap, cur, h1, h2, _⟩
  · cases h1
  · injection h1 with h1; injection h1 with h1; subst h1; exact Nat.le_trans hb h2
def Took (w : World) (g rb : Nat) (L : List UInt8) (t : List UInt8 × Bool × Nat × Int) (e : Ending) (w' : World) : Prop :=
  ∃ A c, e = .returned (.tuple #[.slice A t.1.length c, .bool t.2.1]) ∧ Bs w' A c t.1 ∧ Rdr w' g rb L t.2.2.1 t.2.2.2 ∧ Only w w' (fun k => k = g) ∧ At A rb
theorem cut_bs {w : World} {rb p n : Nat} {L : List UInt8} (h : Blk w rb L) (hm : L.length ≤ 140737488355328) (hn : p + n ≤ L.length) : Bs w (if p + n = p then some ⟨rb, 0, none⟩ else some ⟨rb, p, none⟩) n (cutN L p n) := by
  have hl : (cutN L p n).length = n := by unfold cutN; rw [List.length_take, List.length_drop]; omega
  refine ⟨by omega, by omega, fun i hi => ?_⟩
  rw [hl] at hi
  rw [if_neg (by omega)]
  refine ⟨_, rfl, blk_lt h, ?_⟩
  have e : (⟨rb, p, none⟩ : Addr).add i = ⟨rb, p + i, none⟩ := by unfold Addr.add; split <;> simp_all
  rw [e, h.cell (p + i) (by omega)]
  unfold cutN
  congr 3
  simp only [List.getD_eq_getElem?_getD, List.getElem?_take, hi, if_true, List.getElem?_drop]
theorem run_cut {rb p n : Nat} {L : List UInt8} (hn : p + n ≤ L.length) (W : World) :
    (Instr.slice 27 (.slice (some ⟨rb, 0, none⟩) L.length L.length) (some (.int .i64 (p : Int))) (some (.int .i64 ((p : Int) + n))) (some (.int .i64 ((p : Int) + n)))).run Try.prog W = .ok (.slice (if p + n = p then some ⟨rb, 0, none⟩ else some ⟨rb, p, none⟩) n n) W := by
  have hel : Try.prog.elem 27 = 5 := by kernel_rfl
  have hu : Try.prog.underlying 27 = some (.slice (Try.prog.elem 27)) := by rw [hel]; exact Try.underlying27
  have hs : Try.prog.cellsOf 5 = 1 := by kernel_rfl
  have h1 : (0 : Int) ≤ (p : Int) + n ∧ (p : Int) + n ≤ (L.length : Int) := by omega
  have h2 : (0 : Int) ≤ (p : Int) ∧ (p : Int) ≤ (((p : Int) + n).toNat : Int) := by omega
  have e1 : ((p : Int) + n).toNat = p + n := by omega
  rw [run_slice_any (P := Try.prog) (ht := hu)]
  have hb : (Instr.sliceBounds true L.length L.length (some (.int .i64 (p : Int))) (some (.int .i64 ((p : Int) + n))) (some (.int .i64 ((p : Int) + n)))).run Try.prog W = .ok (p, p + n, p + n) W := by
    have b1 : (Instr.sliceBound (.int .i64 ((p : Int) + n)) L.length .slice3Acap).run Try.prog W = .ok (p + n) W := by rw [run_sliceBound (h0 := h1.1) (h1 := h1.2), e1]
    have b2 : (Instr.sliceBound (.int .i64 ((p : Int) + n)) (p + n) .slice3B).run Try.prog W = .ok (p + n) W := by rw [run_sliceBound (h0 := h1.1) (h1 := by omega), e1]
    have b3 : (Instr.sliceBound (.int .i64 (p : Int)) (p + n) .slice3C).run Try.prog W = .ok p W := by rw [run_sliceBound (h0 := by omega) (h1 := by omega)]; simp
    simp [Instr.sliceBounds, b1, b2, b3]
  rw [hb, hel]
  have hsz : (sizeOf 5).run Try.prog W = .ok 1 W := by kernel_rfl
  simp only [Result.andThen, hsz, sliced]
  have en : p + n - p = n := by omega
  rw [en]
  by_cases h0 : n = 0
  · simp [h0]
  · rw [if_neg (by omega), if_neg (by omega)]
    have ea : (⟨rb, 0, none⟩ : Addr).add (p * 1) = ⟨rb, p, none⟩ := by rw [Nat.mul_one, addr_add_plain]
    rw [Option.map_some, ea]

theorem cutN_len {L : List UInt8} {p n : Nat} (h : p + n ≤ L.length) : (cutN L p n).length = n := by unfold cutN; rw [List.length_take, List.length_drop]; omega
theorem takes_cases (L : List UInt8) (p n : Nat) (err : Int) (hp : p ≤ L.length) : ((err == 0) = false ∧ (err != 0) = true ∧ takes L p n err = ([], false, p, err)) ∨ (err = 0 ∧ L.length - p < n ∧ takes L p n err = ([], false, p, 10)) ∨ (err = 0 ∧ p + n ≤ L.length ∧ takes L p n err = (cutN L p n, true, p + n, 0)) := by
  unfold takes
  by_cases h : err = 0
  · subst h
    by_cases h2 : L.length - p < n
    · exact .inr (.inl ⟨rfl, h2, by simp [h2]⟩)
    · exact .inr (.inr ⟨rfl, by omega, by simp [h2]⟩)
  · exact .inl ⟨by simp [h], by simp [h], by simp [h]⟩
set_option maxRecDepth 100000 in
theorem take (g rb p n : Nat) (L : List UInt8) (err : Int) (w : World) (h : Rdr w g rb L p err) (hn : n ≤ 140737488355328) :
    Calls Try.prog 80 #[.pointer (some ⟨g, 0, none⟩), .int .i64 (n : Int)] w (Took w g rb L (takes L p n err)) := by
  have c0 := h.c0
  have c1 := h.c1
  have c2 := h.c2
  have hle := h.le
  have hmx := h.max
  have HR := Lib.hid h
  clear h
  rcases takes_cases L p n err hle with ⟨e1, e2, e⟩ | ⟨rfl, e2, e⟩ | ⟨rfl, e2, e⟩
  · rw [e]
    clear e
    go_enter Try.func80, Try.ntmps80
    go_wp2_with fail
    go_ret2
    exact ⟨none, 0, rfl, Bs.nil _ _ _, HR.out, Only.refl _ _, fun _ h => by cases h⟩
  · rw [e]
    have f2 := HR.out.f 2
    have e3 : (L.length : Int) - p < n := by omega
    clear e
    go_enter Try.func80, Try.ntmps80
    go_wp2_with fail
    go_quiet (fail)
    go_wp2_with fail
    go_ret2
    exact ⟨none, 0, rfl, Bs.nil _ _ _, (HR.out.drewN _).setErr 10, ((Only.refl w (fun k => k = g)).drewN _).setCell (p := ⟨g, 2, none⟩) (.inl rfl) _, fun _ h => by cases h⟩
  · rw [e]
    have f1 := HR.out.f 1
    have e3 : ¬ (L.length : Int) - p < n := by omega
    have hcut := run_cut (rb := rb) e2
    have HBS : Hid (∀ w', Only w w' (fun k => k = g) → Bs w' (if p + n = p then some ⟨rb, 0, none⟩ else some ⟨rb, p, none⟩) n (cutN L p n)) := fun w' ho => cut_bs (HR.out.r.only ho HR.out.ne.symm) hmx e2
    have hwr : IntKind.i64.wrap ((p : Int) + n) = (p : Int) + n := IntWalk.i64_in _ (by omega)
    have HLN := Lib.hid (cutN_len e2)
    have HAT : Hid (At (if p + n = p then (some ⟨rb, 0, none⟩ : Option Addr) else some ⟨rb, p, none⟩) rb) := by
      intro ad h
      split at h <;> cases h <;> rfl
    generalize (if p + n = p then (some ⟨rb, 0, none⟩ : Option Addr) else some ⟨rb, p, none⟩) = A at hcut HBS HAT
    have HQ : Hid (∀ q, Rdr ((w.drewN q).setCell ⟨g, 1, none⟩ (.int .i64 ((p : Int) + n))) g rb L (p + n) 0) := fun q => by have := (HR.out.drewN q).setAt (p + n) e2; push_cast at this; exact this
    have HO : Hid (∀ q, Only w ((w.drewN q).setCell ⟨g, 1, none⟩ (.int .i64 ((p : Int) + n))) (fun k => k = g)) := fun q => ((Only.refl w (fun k => k = g)).drewN q).setCell (p := ⟨g, 1, none⟩) (.inl rfl) _
    clear e
    go_enter Try.func80, Try.ntmps80
    go_wp2_with fail
    go_quiet (fail)
    go_wp2_with fail
    go_quiet (fail)
    go_wp2_with fail
    go_ret2
    exact ⟨A, n, by show _ = Ending.returned (.tuple #[.slice A (cutN L p n).length n, .bool true]); rw [HLN.out]; rfl, HBS.out _ (HO.out _), HQ.out _, HO.out _, HAT.out⟩

/-! Bytes, Left, Get: by take -/
def Left (L : List UInt8) (p : Nat) (err : Int) : Nat := if err ≠ 0 then 0 else L.length - p
set_option maxRecDepth 100000 in
theorem left (g rb p : Nat) (L : List UInt8) (err : Int) (w : World) (h : Rdr w g rb L p err) :
    Calls Try.prog 68 #[.pointer (some ⟨g, 0, none⟩)] w (Quiet (.int .i64 (Left L p err : Int)) w) := by
  have c0 := h.c0
  have c1 := h.c1
  have c2 := h.c2
  have hle := h.le
  have hmx := h.max
  clear h
  by_cases he : err = 0
  · subst he
    have HL : Hid ((Left L p 0 : Int) = L.length - p) := by unfold Left Hid; simp; omega
    go_enter Try.func68, Try.ntmps68
    go_wp2_with fail
    go_quiet (fail)
    go_wp2_with fail
    go_ret
    exact ⟨_, by rw [HL.out]; rfl, rfl⟩
  · have HL : Hid (Left L p err = 0) := by unfold Left Hid; simp [he]
    have e1 : (err != 0) = true := by simp [he]
    clear he
    go_enter Try.func68, Try.ntmps68
    go_wp2_with fail
    go_ret
    exact ⟨0, by rw [HL.out]; rfl, rfl⟩
def BytesR (w : World) (g rb : Nat) (L : List UInt8) (t : List UInt8 × Bool × Nat × Int) (e : Ending) (w' : World) : Prop :=
  ∃ A c, e = .returned (.slice A t.1.length c) ∧ Bs w' A c t.1 ∧ Rdr w' g rb L t.2.2.1 t.2.2.2 ∧ Only w w' (fun k => k = g) ∧ At A rb
set_option maxRecDepth 100000 in
theorem rbytes (g rb p n : Nat) (x : Int) (L : List UInt8) (err : Int) (w : World) (h : Rdr w g rb L p err) (hx : x = n) (hn : n ≤ 140737488355328) :
    Calls Try.prog 71 #[.pointer (some ⟨g, 0, none⟩), .int .i64 x] w (BytesR w g rb L (takes L p n err)) := by
  subst hx
  have T := Lib.hid (take g rb p n L err w h hn)
  clear h
  go_enter Try.func71, Try.ntmps71
  go_wp2_with fail
  refine T.out.mono ?_
  rintro e w1 ⟨A, c, rfl, hb, hr, ho, hat⟩
  have H := Lib.hid (And.intro hb (And.intro hr ho))
  have HAT := Lib.hid hat
  clear hb hr ho hat
  go_wp2_with fail
  go_ret
  exact ⟨A, c, rfl, H.out.1, H.out.2.1, H.out.2.2, HAT.out⟩
end Go.Proofs.Ytnhfeoniiadjfaa.Help
/- The walks of bits.Get at each kind of number. -/
namespace Go.Proofs.Ytnhfeoniiadjfaa.Help
open Go.RowKit Go.Proofs.Ytnhfeoniiadjfaa.K
set_option linter.unusedVariables false
theorem take_int (g rb p n : Nat) (x : Int) (L : List UInt8) (err : Int) (w : World) (h : Rdr w g rb L p err) (hx : x = n) (hn : n ≤ 140737488355328) :
    Calls Try.prog 80 #[.pointer (some ⟨g, 0, none⟩), .int .i64 x] w (Took w g rb L (takes L p n err)) := by
  subst hx; exact take g rb p n L err w h hn
theorem takes_len (L : List UInt8) (p n : Nat) (err : Int) : (takes L p n err).1.length ≤ n ∧ ((takes L p n err).2.1 = false → (takes L p n err).1 = []) := by
  unfold takes
  split
  · exact ⟨by simp, fun _ => rfl⟩
  · split
    · exact ⟨by simp, fun _ => rfl⟩
    · exact ⟨by unfold cutN; rw [List.length_take]; omega, fun h => by cases h⟩
def GetR (w : World) (g rb : Nat) (L : List UInt8) (k : IntKind) (t : List UInt8 × Bool × Nat × Int) (e : Ending) (w' : World) : Prop :=
  e = .returned (.int k (val t.1 : Int)) ∧ Rdr w' g rb L t.2.2.1 t.2.2.2 ∧ Only w w' (fun k => k = g)
theorem val_pow {l : List UInt8} {k : Nat} (h : l.length ≤ k) : val l < 256 ^ k := Nat.lt_of_lt_of_le (val_lt l) (Nat.pow_le_pow_right (by omega) h)

set_option maxRecDepth 100000 in
theorem get_uint8 (g rb p : Nat) (L : List UInt8) (err : Int) (w : World) (h : Rdr w g rb L p err) :
    Calls Try.prog 69 #[.pointer (some ⟨g, 0, none⟩)] w (GetR w g rb L .u8 (takes L p 1 err)) := by
  have HR := Lib.hid h
  clear h
  have htl := takes_len L p 1 err
  have T := Lib.hid (fun x (hx : x = ((1 : Nat) : Int)) => take_int g rb p 1 x L err w HR.out hx (by omega))
  generalize takes L p 1 err = t at *
  obtain ⟨l, ok, q, er⟩ := t
  obtain ⟨hl1, hl2⟩ := htl
  simp only at hl1 hl2
  have HL2 := Lib.hid hl2
  clear hl2
  have hv := val_pow hl1
  go_enter Try.func69, Try.ntmps69
  go_wp2_with (go_at_call 73; refine (Bits.width_uint8 _).mono ?_; rintro e w' ⟨rfl, rfl⟩)
  refine (T.out _ (by rfl)).mono ?_
  rintro e w1 ⟨A, c, rfl, hb, hr, ho, -⟩
  have H := Lib.hid (And.intro hb (And.intro hr ho))
  clear hb hr ho
  cases ok
  · obtain rfl := HL2.out rfl
    go_wp2_with fail
    go_ret
    exact ⟨rfl, H.out.2.1, H.out.2.2⟩
  · clear HL2
    go_wp2_with fail
    go_loopg [5, 18] l.length (fun gk s i wr => ∃ k : Nat, k ≤ l.length ∧ gk = l.length - k ∧ i = .int .i64 (k : Int) ∧ wr = w1 ∧ s = .int .u64 (val (l.take k) : Int))
    case atStart => exact ⟨0, by omega, rfl, rfl, rfl, by simp [val]⟩
    case round =>
      obtain ⟨k, hk, rfl, rfl, rfl, rfl⟩ := hrel
      by_cases hlt : k < l.length
      · have hlt2 : (k : Int) < l.length := by omega
        obtain ⟨ad, e1, hadl, c1⟩ := H.out.1.at_ k hlt
        subst e1
        have hs := take_snoc8 hlt
        have hx := val_small (l := l.take k) (k := k) (by rw [List.length_take]; omega) (by omega)
        have hor := or_byte (val (l.take k)) (l.getD k 0) hx
        have HN : Hid (val (l.take (k + 1)) = val (l.take k) * 256 + (l.getD k 0).toNat) := by rw [Hid, hs, val_snoc]
        clear hs hadl
        have hb := (l.getD k 0).toNat_lt
        generalize l.getD k 0 = b at *
        generalize val (l.take k) = x at *
        go_wp2_with fail
        go_roundg (l.length - (k + 1))
        case measure => omega
        case rel =>
          refine ⟨k + 1, by omega, rfl, by go_num, rfl, ?_⟩
          rw [HN.out]; push_cast; rfl
      · obtain rfl : k = l.length := by omega
        have e2 : l.take l.length = l := List.take_of_length_le (Nat.le_refl _)
        rw [e2]
        have hw : IntKind.u8.wrap (val l : Int) = (val l : Int) := by
          rw [IntKind.wrap_u8]
          exact Int.emod_eq_of_lt (by omega) (by omega)
        have hv2 : val l < 256 := hv
        clear e2 hlt hv
        generalize hx : val l = x at *
        have HX := Lib.hid hx
        clear hx
        go_wp2_with fail
        go_ret
        exact ⟨by rw [HX.out]; rfl, H.out.2.1, H.out.2.2⟩

end Go.Proofs.Ytnhfeoniiadjfaa.Help
/- The walk of bytes.Equal. -/
namespace Go.Proofs.Ytnhfeoniiadjfaa.Help
open Go.RowKit Go.Proofs.Ytnhfeoniiadjfaa.K
set_option linter.unusedVariables false

theorem u_slice8 : Try.prog.underlying 27 = some (.slice 5) := by kernel_rfl
theorem u_u8 : Try.prog.underlying 5 = some (.int .u8) := by kernel_rfl
theorem u_str : Try.prog.underlying 9 = some .string := by kernel_rfl
/-- string(b) -/
theorem str_of (A : Option Addr) (c : Nat) (l : List UInt8) (w : World) (h : Bs w A c l) :
    (convert 27 9 (.slice A l.length c)).run Try.prog w = .ok (.string ⟨l.toArray⟩) w := by
  rcases A with _ | ad
  · have h0 : l = [] := by
      rcases l with _ | ⟨x, r⟩
      · rfl
      · obtain ⟨ad, h', _⟩ := h.at_ 0 (by simp)
        cases h'
    subst h0
    exact run_convert_bytes_nil w 27 5 u_slice8 u_u8 _ c 9 u_str
  · refine run_convert_bytes_back w 27 9 5 ad c l u_slice8 u_u8 u_str (fun j hj => ?_)
    obtain ⟨ad', e, _, hc⟩ := h.at_ j hj
    cases e
    simpa [hj] using hc
end Go.Proofs.Ytnhfeoniiadjfaa.Help
/- The walks of stamps, the rest: culvertref6.Put; both Gets. -/
namespace Go.Proofs.Ytnhfeoniiadjfaa.Help
open Go.RowKit Go.Proofs.Ytnhfeoniiadjfaa.K
set_option linter.unusedVariables false

theorem stPut_len (sec nano : Nat) : (stPut sec nano).length = 12 := by simp [stPut, be_len]
theorem stPut_a (sec nano j : Nat) (h : j < 8) : (stPut sec nano).getD j 0 = UInt8.ofNat (sec / 2 ^ (56 - 8 * j)) := by
  unfold stPut
  have h1 := be_get 8 sec j h
  rw [List.getD_eq_getElem?_getD] at h1 ⊢
  rw [List.getElem?_append_left (by rw [be_len]; exact h), h1, show 8 * (8 - 1 - j) = 56 - 8 * j by omega]
theorem stPut_b (sec nano j : Nat) (h : j < 4) : (stPut sec nano).getD (8 + j) 0 = UInt8.ofNat (nano / 2 ^ (24 - 8 * j)) := by
  unfold stPut
  have h1 := be_get 4 nano j h
  rw [List.getD_eq_getElem?_getD] at h1 ⊢
  rw [List.getElem?_append_right (by rw [be_len]; omega), be_len, show 8 + j - 8 = j by omega, h1, show 8 * (4 - 1 - j) = 24 - 8 * j by omega]
theorem kind8_a (x j : Nat) (h : j < 8) : IntKind.u8.wrap ((x : Int) / 2 ^ (56 - 8 * j)) = ((UInt8.ofNat (x / 2 ^ (56 - 8 * j))).toNat : Int) := by
  have := kind8 x (7 - j)
  rwa [show 8 * (7 - j) = 56 - 8 * j by omega] at this
theorem kind8_b (x j : Nat) (h : j < 4) : IntKind.u8.wrap ((x : Int) / 2 ^ (24 - 8 * j)) = ((UInt8.ofNat (x / 2 ^ (24 - 8 * j))).toNat : Int) := by
  have := kind8 x (3 - j)
  rwa [show 8 * (3 - j) = 24 - 8 * j by omega] at this

end Go.Proofs.Ytnhfeoniiadjfaa.Help
/- The walks of both Gets of stamps. -/
namespace Go.Proofs.Ytnhfeoniiadjfaa.Help
open Go.RowKit Go.Proofs.Ytnhfeoniiadjfaa.K
set_option linter.unusedVariables false

/-- what Get says of bytes: seconds, nanoseconds, the error -/
def stGet (l : List UInt8) : Int × Int × Int :=
  if l.length = 12 then (if 9223372036854775807 < val (l.take 8) ∨ 999999999 < val (l.drop 8) then (0, 0, 60) else (val (l.take 8), val (l.drop 8), 0)) else (0, 0, 60)
def stVal (t : Int × Int × Int) : Value := .tuple #[.agg #[.int .i64 t.1, .int .i64 t.2.1], .int .i64 t.2.2]

theorem val_app (l : List UInt8) (k : Nat) : val l = val (l.take k) * 256 ^ (l.drop k).length + val (l.drop k) := by
  have key : ∀ (m : List UInt8) (x : Nat), m.foldl (fun x b => x * 256 + b.toNat) x = x * 256 ^ m.length + val m := by
    intro m
    induction m with
    | nil => intro x; simp [val]
    | cons b m ih =>
      intro x
      have h1 := ih (x * 256 + b.toNat)
      have h2 := ih (0 * 256 + b.toNat)
      unfold val
      simp only [List.foldl_cons, List.length_cons, Nat.pow_succ]
      rw [h1, h2, Nat.add_mul, Nat.zero_mul, Nat.zero_add, Nat.mul_assoc, Nat.mul_comm 256 (256 ^ m.length)]
      omega
  have h := key (l.drop k) (val (l.take k))
  rw [← h]
  unfold val
  rw [← List.foldl_append, List.take_append_drop]
/-- the first bit of eight bytes -/
theorem val_top (l : List UInt8) (h : l.length = 12) : (9223372036854775807 < val (l.take 8)) ↔ 127 < (l.getD 0 0).toNat := by
  have h1 := val_app (l.take 8) 1
  have hl : ((l.take 8).drop 1).length = 7 := by rw [List.length_drop, List.length_take]; omega
  have h2 := val_lt ((l.take 8).drop 1)
  rw [hl] at h1 h2
  have h3 : (l.take 8).take 1 = [l.getD 0 0] := by
    match l, h with
    | a :: r, _ => simp
  rw [h3] at h1
  have h4 : val [l.getD 0 0] = (l.getD 0 0).toNat := by simp [val]
  rw [h4] at h1
  have h5 : (256 : Nat) ^ 7 = 72057594037927936 := by decide
  rw [h5] at h1 h2
  omega

end Go.Proofs.Ytnhfeoniiadjfaa.Help
/- The walks of PutBoots, the program's and the document's. -/
namespace Go.Proofs.Ytnhfeoniiadjfaa.Help
open Go.RowKit Go.Proofs.Ytnhfeoniiadjfaa.K
set_option linter.unusedVariables false

/-- a row and an error, in new memory -/
def RowRet (w : World) (k v : List UInt8) (code : Int) (e : Ending) (w' : World) : Prop :=
  ∃ v1 v2, e = .returned (.tuple #[.agg #[v1, v2], .int .i64 code]) ∧ Own w' w.heap.size v1 k ∧ Own w' w.heap.size v2 v ∧ Below w.heap.size w w'
def putBoots (n : Int) : List UInt8 × List UInt8 × Int := if n < 0 ∨ 4611686018427387904 < n then ([], [], 114) else ([66], be 8 n.toNat, 0)
theorem putBoots_cases (n : Int) : (n < 0 ∧ putBoots n = ([], [], 114)) ∨ (0 ≤ n ∧ 4611686018427387904 < n ∧ putBoots n = ([], [], 114)) ∨ (∃ m : Nat, n = m ∧ m ≤ 4611686018427387904 ∧ putBoots n = ([66], be 8 m, 0)) := by
  unfold putBoots
  by_cases h1 : n < 0
  · exact .inl ⟨h1, by rw [if_pos (.inl h1)]⟩
  by_cases h2 : 4611686018427387904 < n
  · exact .inr (.inl ⟨by omega, h2, by rw [if_pos (.inr h2)]⟩)
  · exact .inr (.inr ⟨n.toNat, by omega, by omega, by rw [if_neg (by omega)]⟩)
/-- the two cells of a result -/
theorem row_done {w w2 : World} {A B : Option Addr} {a b c d : Nat} {k v : List UInt8} (h1 : Own w2 (w.heap.size + 1) (.slice A a c) k) (h2 : Own w2 (w.heap.size + 1) (.slice B b d) v) (hb : Below w.heap.size w w2) (code : Int) :
    RowRet w k v code (.returned (.tuple #[.agg #[.slice A a c, .slice B b d], .int .i64 code])) ((w2.setCell ⟨w.heap.size, 0, none⟩ (.slice A a c)).setCell ⟨w.heap.size, 1, none⟩ (.slice B b d)) := by
  have ho : Only w2 ((w2.setCell ⟨w.heap.size, 0, none⟩ (.slice A a c)).setCell ⟨w.heap.size, 1, none⟩ (.slice B b d)) (fun k => k = w.heap.size) :=
    ((Only.refl w2 (fun k => k = w.heap.size)).setCell (p := ⟨w.heap.size, 0, none⟩) (.inl rfl) _).setCell (p := ⟨w.heap.size, 1, none⟩) (.inl rfl) _
  refine ⟨_, _, rfl, (h1.only ho (fun i hi e => ?_)).mono (by omega), (h2.only ho (fun i hi e => ?_)).mono (by omega), below_only hb ho (fun i hi => by rw [hi]; exact Nat.le_refl _)⟩
  · have := h1.base_le hi; omega
  · have := h2.base_le hi; omega

end Go.Proofs.Ytnhfeoniiadjfaa.Help
/- The walk of the program's GetBoots. -/
namespace Go.Proofs.Ytnhfeoniiadjfaa.Help
open Go.RowKit Go.Proofs.Ytnhfeoniiadjfaa.K
set_option linter.unusedVariables false

/-- an i64 of a u64 -/
def asInt (x : Nat) : Int := wrap64 (x : Int)
/-- what read answers: the thing, if its row is the row -/
def readAs (p : List UInt8 × List UInt8 × Int) (k v : List UInt8) (x none : Value) : Value := if p.2.2 = 0 ∧ p.1 = k ∧ p.2.1 = v then .tuple #[x, .int .i64 0] else .tuple #[none, .int .i64 114]
theorem readAs_no {p : List UInt8 × List UInt8 × Int} {k v : List UInt8} {x none : Value} (h : ¬ (p.2.2 = 0 ∧ p.1 = k ∧ p.2.1 = v)) : readAs p k v x none = .tuple #[none, .int .i64 114] := if_neg h
theorem asInt_le (x : Nat) : asInt x ≤ 9223372036854775807 := by unfold asInt wrap64; omega
/-- read's memory: the box of the row -/
structure RdS (w w' : World) (x y : Value) : Prop where
  b : w'.heap[w.heap.size]? = some (.cells #[x, y] 54 (0, 0))
  below : Below w.heap.size w w'
theorem RdS.c0 {w w' : World} {x y : Value} (h : RdS w w' x y) : w'.cell? ⟨w.heap.size, 0, none⟩ = some x := (blk_cell h.b 0).trans rfl
theorem RdS.c1 {w w' : World} {x y : Value} (h : RdS w w' x y) : w'.cell? ⟨w.heap.size, 1, none⟩ = some y := (blk_cell h.b 1).trans rfl
theorem RdS.start (w : World) (x y : Value) : RdS w (w.alloc (.cells #[x, y] 54)) x y := ⟨blk_new _ _, below_alloc (Below.refl _ _) _⟩
theorem RdS.step {w w' w2 : World} {x y : Value} (h : RdS w w' x y) (hb : Below w'.heap.size w' w2) : RdS w w2 x y := ⟨(hb.block _ (blk_lt h.b)).trans h.b, below_step h.below hb⟩
theorem RdS.drewN {w w' : World} {x y : Value} (h : RdS w w' x y) (n : Nat) : RdS w (w'.drewN n) x y := ⟨h.b, below_drewN h.below n⟩
theorem RdS.only {w w' w2 : World} {x y : Value} {T : Nat → Prop} (h : RdS w w' x y) (k : Only w' w2 T) (hT : ∀ i, T i → w.heap.size < i) : RdS w w2 x y :=
  ⟨k.blk h.b (fun h2 => by have := hT _ h2; omega), below_only h.below k (fun i hi => Nat.le_of_lt (hT i hi))⟩
theorem RdS.bs {w w' : World} {x y : Value} (h : RdS w w' x y) {A : Option Addr} {c : Nat} {l : List UInt8} (hs : Bs w A c l) : Bs w' A c l := hs.below h.below
/-- behind the two readers -/
theorem RdS.first {w w' w1 : World} {x y : Value} {L : List UInt8} {e : Ending} (h : RdS w w' x y) (hn : NewR w' L e w1) : ∃ g rb, e = .returned (.pointer (some ⟨g, 0, none⟩)) ∧ RdS w w1 x y ∧ Rdr w1 g rb L 0 0 ∧ w.heap.size < g ∧ w.heap.size < rb := by
  obtain ⟨g, rb, he, hr, hb, hg, hrb⟩ := hn
  have := blk_lt h.b
  exact ⟨g, rb, he, h.step hb, hr, by omega, by omega⟩

end Go.Proofs.Ytnhfeoniiadjfaa.Help
/- The walks of GetBoots, the program's and the document's, and of SameRow. -/
namespace Go.Proofs.Ytnhfeoniiadjfaa.Help
open Go.RowKit Go.Proofs.Ytnhfeoniiadjfaa.K
set_option linter.unusedVariables false

theorem readAs_cases (p : List UInt8 × List UInt8 × Int) (k v : List UInt8) (x none : Int) : ∃ a b, readAs p k v (.int .i64 x) (.int .i64 none) = .tuple #[.int .i64 a, .int .i64 b] := by
  unfold readAs; split
  · exact ⟨_, _, rfl⟩
  · exact ⟨_, _, rfl⟩
set_option maxRecDepth 100000 in
theorem sameRow (A B C D : Option Addr) (a b c d : Nat) (k v k' v' : List UInt8) (w : World) (h1 : Bs w A a k) (h2 : Bs w B b v) (h3 : Bs w C c k') (h4 : Bs w D d v') :
    Calls Try.prog 65 #[.agg #[.slice A k.length a, .slice B v.length b], .agg #[.slice C k'.length c, .slice D v'.length d]] w (Pure w (.bool (decide (k = k') && decide (v = v')))) := by
  have hb : Below w.heap.size w ((w.alloc (.cells #[.slice A k.length a, .slice B v.length b] 54)).alloc (.cells #[.slice C k'.length c, .slice D v'.length d] 54)) := below_alloc (below_alloc (Below.refl _ _) _) _
  have HB := Lib.hid hb
  have T1 := Lib.hid (sameBytes A C a c k k' _ (h1.below hb) (h3.below hb))
  have T2 := Lib.hid (fun n => sameBytes B D b d v v' _ ((h2.below hb).drewN n) ((h4.below hb).drewN n))
  clear h1 h2 h3 h4 hb
  generalize decide (k = k') = r1 at *
  generalize decide (v = v') = r2 at *
  go_enter Try.func65, Try.ntmps65
  go_wp2_with fail
  refine T1.out.mono ?_
  rintro e w1 ⟨n1, rfl, rfl⟩
  go_wp2_with fail
  refine (T2.out _).mono ?_
  rintro e w1 ⟨n2, rfl, rfl⟩
  cases r1
  · go_wp2_with fail
    go_ret
    exact ⟨rfl, below_drewN (HB.out) _⟩
  · go_wp2_with fail
    go_ret
    exact ⟨rfl, below_drewN (HB.out) _⟩
end Go.Proofs.Ytnhfeoniiadjfaa.Help
/- The walk of the document's GetBoots. -/
namespace Go.Proofs.Ytnhfeoniiadjfaa.Help
open Go.RowKit Go.Proofs.Ytnhfeoniiadjfaa.K
set_option linter.unusedVariables false

theorem takes_rd (v : List UInt8) (n : Nat) : val (takes v 0 n 0).1 = rdAt v 0 n := by
  unfold takes rdAt cutN
  simp only [ne_eq, not_true, if_false]
  split
  · rw [if_pos (by omega)]; rfl
  · rw [if_neg (by omega)]
theorem asInt_small {x : Nat} (h : x ≤ 9223372036854775807) : asInt x = x := by unfold asInt; rw [wrap64]; omega
theorem asInt_big {x : Nat} (h : 4611686018427387904 < x) (h2 : x < 18446744073709551616) : (putBoots (asInt x)).2.2 = 114 := by
  unfold putBoots
  rw [if_pos]
  unfold asInt; rw [wrap64]; omega
theorem putBoots_len {n : Int} (h : (putBoots n).2.2 = 0) : (putBoots n).2.1.length = 8 := by
  unfold putBoots at h ⊢
  split at h
  · cases h
  · rename_i h2; rw [if_neg h2]; exact be_len 8 _
theorem rdAt_lt (v : List UInt8) : rdAt v 0 8 < 18446744073709551616 := by
  unfold rdAt
  split
  · decide
  · exact Nat.lt_of_lt_of_le (val_pow (l := (v.drop 0).take 8) (k := 8) (by rw [List.length_take]; omega)) (by decide)
end Go.Proofs.Ytnhfeoniiadjfaa.Help
/- Lanes as plain data; the append of a list of bytes. -/
namespace Go.Proofs.Ytnhfeoniiadjfaa.Help
open Go.RowKit Go.Proofs.Ytnhfeoniiadjfaa.K
set_option linter.unusedVariables false

/-- a lane's data -/
structure LaneD where
  key : List UInt8
  side : Int
  cur : Int
  next : Int
  sc : Nat
  ceil : Nat
  sec : Int
  nano : Int
def laneV (A : Option Addr) (c : Nat) (d : LaneD) : Value :=
  .agg #[.slice A d.key.length c, .int .i64 d.side, .int .i64 d.cur, .int .i64 d.next, .int .u64 (d.sc : Int), .int .u64 (d.ceil : Int), .int .i64 d.sec, .int .i64 d.nano]
/-- the bounds of the numbers -/
structure LaneB (d : LaneD) : Prop where
  sc : d.sc < 18446744073709551616
  ceil : d.ceil < 18446744073709551616
  sec : d.sec ≤ 9223372036854775807
def laneOk (d : LaneD) : Prop := d.key.length = 32 ∧ (d.side = 0 ∨ d.side = 1) ∧ 1 ≤ d.cur ∧ d.cur ≤ 2147483647 ∧ 0 ≤ d.next ∧ d.next ≤ 2147483647 ∧ stV d.sec d.nano = true
instance (d : LaneD) : Decidable (laneOk d) := by unfold laneOk; infer_instance
def laneVal (side cur next sc ceil sec nano : Nat) : List UInt8 := (((([UInt8.ofNat side] ++ be 4 cur) ++ be 4 next) ++ be 8 sc) ++ be 8 ceil) ++ stPut sec nano
theorem laneVal_len (side cur next sc ceil sec nano : Nat) : (laneVal side cur next sc ceil sec nano).length = 37 := by simp [laneVal, be_len, stPut]
def putLane (d : LaneD) : List UInt8 × List UInt8 × Int :=
  if laneOk d then ([76] ++ d.key, laneVal d.side.toNat d.cur.toNat d.next.toNat d.sc d.ceil d.sec.toNat d.nano.toNat, 0) else ([], [], 114)
theorem putLane_no {d : LaneD} (h : ¬ laneOk d) : putLane d = ([], [], 114) := if_neg h
theorem putLane_yes {d : LaneD} (h : laneOk d) : putLane d = ([76] ++ d.key, laneVal d.side.toNat d.cur.toNat d.next.toNat d.sc d.ceil d.sec.toNat d.nano.toNat, 0) := if_pos h
theorem putLane_len {d : LaneD} (h : (putLane d).2.2 = 0) : (putLane d).1.length = 33 ∧ (putLane d).2.1.length = 37 := by
  by_cases h1 : laneOk d
  · rw [putLane_yes h1]; exact ⟨by simp [h1.1], laneVal_len ..⟩
  · rw [putLane_no h1] at h; cases h

theorem Own.blk_lt {w : World} {base : Nat} {v : Value} {l : List UInt8} (h : Own w base v l) {i : Nat} (hi : v.ownBlock = some i) : i < w.heap.size := by
  rcases h.1.2 with ⟨rfl, _⟩ | ⟨g, cap, cur, rfl, hb, hh, _⟩
  · simp [Value.ownBlock] at hi
  · have : g = i := by simpa [Value.ownBlock] using hi
    subst this
    exact K.blk_lt hh
section
variable {ops : Array Oper} {rest : List Oper} {o : Oper} {a : Act} {Q : Exit → Act → World → Prop}
/-- append(v, m...), v a slice of bytes of the call's own, from block B on; m not empty -/
theorem push_many {B : Nat} {W0 W : World} (hgd : o.guard = none) (s x : Operand)
    (ho : o.op = .call { callee := .builtin .append, args := #[s, x], argTypes := #[27, 27] })
    (v : Value) (l m : List UInt8) (A : Option Addr) (mc : Nat) (hs : a.eval s = v) (hx : a.eval x = .slice A m.length mc)
    (HO : Own W B v l) (HM : Bs W A mc m) (hm : 0 < m.length) (HB : Below B W0 W) (hBW : B ≤ W.heap.size) (hl : l.length + m.length ≤ 140737488355328)
    (h : ∀ A' c' w1, Own w1 B (.slice A' (l ++ m).length c') (l ++ m) → Below B W0 w1 → Only W w1 (fun k => v.ownBlock = some k) → wpList Try.prog ops Q rest (a.put o.dst (.slice A' (l ++ m).length c')) w1) :
    wpList Try.prog ops Q (o :: rest) a W := by
  obtain ⟨i0, hi, hzz⟩ := Option.map_eq_some_iff.1 info_u8
  simp only [Prod.mk.injEq] at hzz
  obtain ⟨hz0, hz1, hz2⟩ := hzz
  obtain ⟨ad, rfl, _⟩ := HM.at_ 0 hm
  refine wpList_append_own_at W hgd s x _ ho B 5 i0 (.int .u8 0) 1 1 Try.underlying27 hi hz0 hz1 hz2 rfl (by omega) v l.length (u8s l) hs HO.1 ad m.length mc (u8s m) hx (by rw [u8s_len]; omega)
    (HM.cells rfl) (by intro u hu; simp only [u8s, u8, List.mem_map] at hu; obtain ⟨q, _, rfl⟩ := hu; rfl) (by simp only [maxLen]; omega) (by omega) hBW ?_
  intro v1 w1 hown hg _ hat
  have hO : Own w1 B v1 (l ++ m) := by
    refine ⟨?_, by simp; omega⟩
    rw [u8s_app]; simpa using hown
  obtain ⟨A', c', rfl, _⟩ := hO.bs
  exact h A' c' w1 hO (HB.grown hg hBW (fun k hk => HO.base_le hk)) ((Only.refl W (fun k => v.ownBlock = some k)).grown hg (fun k hk => .inl hk))
/-- the same at a step of a region that draws -/
theorem step_push {B : Nat} {W : World} {K : Act → World → Prop} {E : Prop} (hgd : o.guard = none) (s x : Operand)
    (ho : o.op = .call { callee := .builtin .append, args := #[s, x], argTypes := #[27, 27] })
    (v : Value) (l m : List UInt8) (A : Option Addr) (mc : Nat) (hs : a.eval s = v) (hx : a.eval x = .slice A m.length mc)
    (HO : Own W B v l) (HM : Bs W A mc m) (hm : 0 < m.length) (hBW : B ≤ W.heap.size) (hl : l.length + m.length ≤ 140737488355328)
    (h : ∀ A' c' w1, Own w1 B (.slice A' (l ++ m).length c') (l ++ m) → Only W w1 (fun k => v.ownBlock = some k) → K (a.put o.dst (.slice A' (l ++ m).length c')) w1) :
    if Region.wanted o (yielded ops a.tmps) = true then Oper.wp Try.prog o a W K Q else E := by
  obtain ⟨i0, hi, hzz⟩ := Option.map_eq_some_iff.1 info_u8
  simp only [Prod.mk.injEq] at hzz
  obtain ⟨hz0, hz1, hz2⟩ := hzz
  obtain ⟨ad, rfl, _⟩ := HM.at_ 0 hm
  refine step_append_lies W hgd s x _ ho B 5 i0 (.int .u8 0) 1 1 Try.underlying27 hi hz0 hz1 hz2 rfl (by omega) v l.length (u8s l) hs HO.1 ad m.length mc (u8s m) hx (by rw [u8s_len]; omega)
    (HM.cells rfl) (by intro u hu; simp only [u8s, u8, List.mem_map] at hu; obtain ⟨q, _, rfl⟩ := hu; rfl) hm (by simp only [maxLen]; omega) (by omega) hBW _ rfl ?_
  intro g cap w1 hown hg hat hlt
  have e : (l ++ m).length = l.length + m.length := by simp
  have hO : Own w1 B (.slice (some ⟨g, 0, none⟩) (l.length + m.length) cap) (l ++ m) := by
    refine ⟨?_, by simp; omega⟩
    rw [u8s_app, e]; exact hown
  rw [← e] at hO ⊢
  exact h _ cap w1 hO ((Only.refl W (fun k => v.ownBlock = some k)).grown hg (fun k hk => .inl hk))
end
end Go.Proofs.Ytnhfeoniiadjfaa.Help
/- The walks of prefixes' small functions: width, ValidAddr, ones; Compare of numbers. -/
namespace Go.Proofs.Ytnhfeoniiadjfaa.Pfx
open Go.RowKit Go.Proofs.Ytnhfeoniiadjfaa.K Go.Proofs.Ytnhfeoniiadjfaa.Help
set_option linter.unusedVariables false

/-- how many bits a family has -/
def pw (fam : Int) : Nat := if fam = 4 then 32 else if fam = 6 then 128 else 0
theorem pw_cases (fam : Int) : (fam = 4 ∧ pw fam = 32) ∨ (fam = 6 ∧ pw fam = 128) ∨ ((fam == 4) = false ∧ (fam == 6) = false ∧ pw fam = 0) := by
  unfold pw
  by_cases h1 : fam = 4
  · exact .inl ⟨h1, by rw [if_pos h1]⟩
  · by_cases h2 : fam = 6
    · exact .inr (.inl ⟨h2, by rw [if_neg h1, if_pos h2]⟩)
    · exact .inr (.inr ⟨by rw [beq_eq_false_iff_ne]; exact h1, by rw [beq_eq_false_iff_ne]; exact h2, by rw [if_neg h1, if_neg h2]⟩)
/-- may it be an address? -/
def vaB (fam : Int) (hi lo : Nat) : Bool := decide (fam = 6 ∨ (fam = 4 ∧ hi = 0 ∧ lo < 4294967296))
theorem vaB_cases (fam : Int) (hi lo : Nat) : (fam = 6 ∧ vaB fam hi lo = true) ∨ (fam = 4 ∧ ((hi : Int) == 0) = false ∧ vaB fam hi lo = false) ∨ (fam = 4 ∧ hi = 0 ∧ decide ((lo : Int) < 4294967296) = vaB fam hi lo) ∨
    ((fam == 6) = false ∧ (fam == 4) = false ∧ vaB fam hi lo = false) := by
  unfold vaB
  by_cases h1 : fam = 6
  · exact .inl ⟨h1, decide_eq_true (.inl h1)⟩
  · by_cases h2 : fam = 4
    · by_cases h3 : hi = 0
      · refine .inr (.inr (.inl ⟨h2, h3, ?_⟩))
        by_cases h4 : lo < 4294967296
        · rw [decide_eq_true (by omega), decide_eq_true (.inr ⟨h2, h3, h4⟩)]
        · rw [decide_eq_false (by omega), decide_eq_false (by rintro (h | h); exact h1 h; exact h4 h.2.2)]
      · exact .inr (.inl ⟨h2, by rw [beq_eq_false_iff_ne]; omega, decide_eq_false (by rintro (h | h); exact h1 h; exact h3 h.2.1)⟩)
    · exact .inr (.inr (.inr ⟨by rw [beq_eq_false_iff_ne]; exact h1, by rw [beq_eq_false_iff_ne]; exact h2, decide_eq_false (by rintro (h | h); exact h1 h; exact h2 h.1)⟩))
/-- the order of two numbers -/
def ord (a b : Int) : Int := if a < b then -1 else if b < a then 1 else 0
theorem ord_cases (a b : Int) : (a < b ∧ ord a b = -1) ∨ (decide (a < b) = false ∧ b < a ∧ ord a b = 1) ∨ (decide (a < b) = false ∧ decide (b < a) = false ∧ ord a b = 0) := by
  unfold ord
  by_cases h1 : a < b
  · exact .inl ⟨h1, if_pos h1⟩
  · by_cases h2 : b < a
    · exact .inr (.inl ⟨decide_eq_false h1, h2, by rw [if_neg h1, if_pos h2]⟩)
    · exact .inr (.inr ⟨decide_eq_false h1, decide_eq_false h2, by rw [if_neg h1, if_neg h2]⟩)
theorem ret_u64 {a b : Int} (h : a = b) : Ending.returned (.int .u64 a) = .returned (.int .u64 b) := by rw [h]
theorem ones_wrap (n : Nat) (hn : n ≤ 64) : IntKind.u64.wrap (IntKind.u64.wrap ((2 : Int) ^ n) - 1) = ((2 ^ n - 1 : Nat) : Int) := by
  have hc : (2 : Int) ^ n = ((2 ^ n : Nat) : Int) := by push_cast; rfl
  have hp : 0 < 2 ^ n := Nat.pow_pos (by omega)
  rw [hc, IntKind.wrap_u64, IntKind.wrap_u64]
  rcases Nat.lt_or_ge n 64 with h | h
  · have h2 : 2 ^ n < 18446744073709551616 := by
      have := Nat.pow_lt_pow_right (a := 2) (by omega) h
      simpa using this
    omega
  · obtain rfl : n = 64 := by omega
    decide
end Go.Proofs.Ytnhfeoniiadjfaa.Pfx
/- Plain: bits of prefixes. -/
namespace Go.Proofs.Ytnhfeoniiadjfaa.Pfx
open Go.RowKit Go.Proofs.Ytnhfeoniiadjfaa.K Go.Proofs.Ytnhfeoniiadjfaa.Help
set_option linter.unusedVariables false

theorem bclr_ones {a k : Nat} (ha : a < 18446744073709551616) (hk : k ≤ 64) : bclr a (2 ^ k - 1) = a - a % 2 ^ k := by
  have h1 : a - a % 2 ^ k = (a >>> k) <<< k := by
    rw [Nat.shiftRight_eq_div_pow, Nat.shiftLeft_eq]
    have := Nat.div_add_mod a (2 ^ k)
    rw [Nat.mul_comm] at this
    omega
  have hp : 2 ^ k ≤ 18446744073709551616 := by
    have := Nat.pow_le_pow_right (n := 2) (by omega) hk
    simpa using this
  have hp0 : 0 < 2 ^ k := Nat.pow_pos (by omega)
  have h2 : 18446744073709551615 - (2 ^ k - 1) = (2 ^ (64 - k) - 1) <<< k := by
    rw [Nat.shiftLeft_eq, Nat.sub_mul, ← Nat.pow_add, show 64 - k + k = 64 by omega]
    omega
  unfold bclr
  rw [h1, h2]
  apply Nat.eq_of_testBit_eq
  intro i
  rw [Nat.testBit_and, Nat.testBit_shiftLeft, Nat.testBit_shiftLeft, Nat.testBit_shiftRight, Nat.testBit_two_pow_sub_one]
  by_cases hi : k ≤ i
  · rw [show k + (i - k) = i by omega]
    cases hb : a.testBit i
    · simp
    · have : i < 64 := by
        rcases Nat.lt_or_ge i 64 with h | h
        · exact h
        · rw [Nat.testBit_lt_two_pow (Nat.lt_of_lt_of_le ha (by have := Nat.pow_le_pow_right (n := 2) (by omega) h; simpa using this))] at hb
          cases hb
      have h3 : i - k < 64 - k := by omega
      simp [hi, h3]
  · simp [hi]
theorem bclr_ones_eq {a k : Nat} (ha : a < 18446744073709551616) (hk : k ≤ 64) : bclr a (2 ^ k - 1) = a ↔ a % 2 ^ k = 0 := by
  rw [bclr_ones ha hk]
  have := Nat.mod_le a (2 ^ k)
  omega
theorem ones_lt {k : Nat} (hk : k ≤ 64) : 2 ^ k - 1 < 18446744073709551616 := by
  have := Nat.pow_le_pow_right (n := 2) (by omega) hk
  have h2 : (2 : Nat) ^ 64 = 18446744073709551616 := by decide
  omega
/-- may it be a prefix? -/
def pvB (fam : Int) (hi lo : Nat) (bits : Int) : Bool :=
  vaB fam hi lo && decide (0 ≤ bits) && decide (bits ≤ pw fam) && (if fam = 4 then decide (lo % 2 ^ (32 - bits.toNat) = 0) else decide (hi % 2 ^ (64 - min bits.toNat 64) = 0) && decide (lo % 2 ^ (128 - max bits.toNat 64) = 0))
theorem vaB_fam {fam : Int} {hi lo : Nat} (h : vaB fam hi lo = true) : fam = 4 ∨ fam = 6 := by
  have := of_decide_eq_true h
  rcases this with h | h
  · exact .inr h
  · exact .inl h.1
end Go.Proofs.Ytnhfeoniiadjfaa.Pfx
/- The walk of PutLane. -/
namespace Go.Proofs.Ytnhfeoniiadjfaa.Help
open Go.RowKit Go.Proofs.Ytnhfeoniiadjfaa.K
set_option linter.unusedVariables false

/-- the box of a struct that came in by value -/
structure Box (t : TypeId) (w w' : World) (cs : Array Value) : Prop where
  b : w'.heap[w.heap.size]? = some (.cells cs t (0, 0))
  below : Below w.heap.size w w'
section
variable {t : TypeId} {w w' w2 : World} {cs : Array Value}
theorem Box.start (t : TypeId) (w : World) (cs : Array Value) : Box t w (w.alloc (.cells cs t)) cs := ⟨blk_new _ _, below_alloc (Below.refl _ _) _⟩
theorem Box.step (h : Box t w w' cs) (hb : Below w'.heap.size w' w2) : Box t w w2 cs := ⟨(hb.block _ (blk_lt h.b)).trans h.b, below_step h.below hb⟩
theorem Box.drewN (h : Box t w w' cs) (n : Nat) : Box t w (w'.drewN n) cs := ⟨h.b, below_drewN h.below n⟩
theorem Box.alloc (h : Box t w w' cs) (o : Obj) : Box t w (w'.alloc o) cs := h.step (below_alloc (Below.refl _ _) o)
theorem Box.only {T : Nat → Prop} (h : Box t w w' cs) (k : Only w' w2 T) (hT : ∀ i, T i → w.heap.size < i) : Box t w w2 cs :=
  ⟨k.blk h.b (fun h2 => by have := hT _ h2; omega), below_only h.below k (fun i hi => Nat.le_of_lt (hT i hi))⟩
theorem Box.cell (h : Box t w w' cs) (j : Nat) : w'.cell? ⟨w.heap.size, j, none⟩ = cs[j]? := blk_cell h.b j
theorem Box.free (h : Box t w w' cs) (j : Nat) : w'.frozen? ⟨w.heap.size, j, none⟩ = false := blk_free h.b j
theorem Box.bs (h : Box t w w' cs) {A : Option Addr} {c : Nat} {l : List UInt8} (hs : Bs w A c l) : Bs w' A c l := hs.below h.below
theorem Box.lt (h : Box t w w' cs) : w.heap.size < w'.heap.size := blk_lt h.b
end
/-- two boxes: the struct that came in, and the row that is answered -/
structure LnS (t : TypeId) (w w' : World) (cs : Array Value) : Prop where
  b : w'.heap[w.heap.size]? = some (.cells cs t (0, 0))
  r : w'.heap[w.heap.size + 1]? = some (.cells #[.slice none 0 0, .slice none 0 0] 54 (0, 0))
  below : Below w.heap.size w w'
section
variable {t : TypeId} {w w' w2 : World} {cs : Array Value}
theorem LnS.start (t : TypeId) (w : World) (cs : Array Value) : LnS t w ((w.alloc (.cells cs t)).alloc (.cells #[.slice none 0 0, .slice none 0 0] 54)) cs :=
  ⟨blk_alloc (blk_new _ _) _, by have := blk_new (w.alloc (.cells cs t)) (.cells #[.slice none 0 0, .slice none 0 0] 54); simpa using this, below_alloc (below_alloc (Below.refl _ _) _) _⟩
theorem LnS.step (h : LnS t w w' cs) (hb : Below w'.heap.size w' w2) : LnS t w w2 cs := ⟨(hb.block _ (blk_lt h.b)).trans h.b, (hb.block _ (blk_lt h.r)).trans h.r, below_step h.below hb⟩
theorem LnS.drewN (h : LnS t w w' cs) (n : Nat) : LnS t w (w'.drewN n) cs := ⟨h.b, h.r, below_drewN h.below n⟩
theorem LnS.alloc (h : LnS t w w' cs) (o : Obj) : LnS t w (w'.alloc o) cs := h.step (below_alloc (Below.refl _ _) o)
theorem LnS.only {T : Nat → Prop} (h : LnS t w w' cs) (k : Only w' w2 T) (hT : ∀ i, T i → w.heap.size + 1 < i) : LnS t w w2 cs :=
  ⟨k.blk h.b (fun h2 => by have := hT _ h2; omega), k.blk h.r (fun h2 => by have := hT _ h2; omega), below_only h.below k (fun i hi => by have := hT i hi; omega)⟩
theorem LnS.cell (h : LnS t w w' cs) (j : Nat) : w'.cell? ⟨w.heap.size, j, none⟩ = cs[j]? := blk_cell h.b j
theorem LnS.bs (h : LnS t w w' cs) {A : Option Addr} {c : Nat} {l : List UInt8} (hs : Bs w A c l) : Bs w' A c l := hs.below h.below
theorem LnS.lt (h : LnS t w w' cs) : w.heap.size + 1 < w'.heap.size := blk_lt h.r
end
theorem row_done0 {t : TypeId} {w w1 : World} {cs : Array Value} (h : LnS t w w1 cs) :
    Below w.heap.size w ((w1.setCell ⟨w.heap.size + 1, 0, none⟩ (.slice none 0 0)).setCell ⟨w.heap.size + 1, 1, none⟩ (.slice none 0 0)) :=
  (h.below.setCell (p := ⟨w.heap.size + 1, 0, none⟩) (by simp) _).setCell (p := ⟨w.heap.size + 1, 1, none⟩) (by simp) _
/-- the two cells of a result behind a box -/
theorem row_done1 {t : TypeId} {w w2 : World} {cs : Array Value} (h : LnS t w w2 cs) {A B : Option Addr} {a b c d : Nat} {k v : List UInt8} (h1 : Own w2 (w.heap.size + 2) (.slice A a c) k) (h2 : Own w2 (w.heap.size + 2) (.slice B b d) v) (code : Int) :
    RowRet w k v code (.returned (.tuple #[.agg #[.slice A a c, .slice B b d], .int .i64 code])) ((w2.setCell ⟨w.heap.size + 1, 0, none⟩ (.slice A a c)).setCell ⟨w.heap.size + 1, 1, none⟩ (.slice B b d)) := by
  have ho : Only w2 ((w2.setCell ⟨w.heap.size + 1, 0, none⟩ (.slice A a c)).setCell ⟨w.heap.size + 1, 1, none⟩ (.slice B b d)) (fun k => k = w.heap.size + 1) :=
    ((Only.refl w2 (fun k => k = w.heap.size + 1)).setCell (p := ⟨w.heap.size + 1, 0, none⟩) (.inl rfl) _).setCell (p := ⟨w.heap.size + 1, 1, none⟩) (.inl rfl) _
  refine ⟨_, _, rfl, (h1.only ho (fun i hi e => ?_)).mono (by omega), (h2.only ho (fun i hi e => ?_)).mono (by omega), below_only h.below ho (fun i hi => by rw [hi]; omega)⟩
  · have := h1.base_le hi; omega
  · have := h2.base_le hi; omega
/-- ways in which a lane may not be put -/
theorem lane_cases (d : LaneD) : (((d.key.length : Int) != 32) = true ∧ putLane d = ([], [], 114)) ∨ (((d.key.length : Int) != 32) = false ∧ d.side ≠ 0 ∧ d.side ≠ 1 ∧ putLane d = ([], [], 114)) ∨
    (((d.key.length : Int) != 32) = false ∧ (d.side = 0 ∨ d.side = 1) ∧ (
      (d.cur < 1 ∧ putLane d = ([], [], 114)) ∨ (1 ≤ d.cur ∧ 2147483647 < d.cur ∧ putLane d = ([], [], 114)) ∨
      (1 ≤ d.cur ∧ d.cur ≤ 2147483647 ∧ d.next < 0 ∧ putLane d = ([], [], 114)) ∨ (1 ≤ d.cur ∧ d.cur ≤ 2147483647 ∧ 0 ≤ d.next ∧ 2147483647 < d.next ∧ putLane d = ([], [], 114)) ∨
      (1 ≤ d.cur ∧ d.cur ≤ 2147483647 ∧ 0 ≤ d.next ∧ d.next ≤ 2147483647 ∧ stV d.sec d.nano = false ∧ putLane d = ([], [], 114)))) ∨ laneOk d := by
  by_cases h : laneOk d
  · exact .inr (.inr (.inr h))
  · have hp := putLane_no h
    by_cases h1 : d.key.length = 32
    · have e1 : ((d.key.length : Int) != 32) = false := by rw [bne_eq_false_iff_eq]; omega
      by_cases h2 : d.side = 0 ∨ d.side = 1
      · refine .inr (.inr (.inl ⟨e1, h2, ?_⟩))
        by_cases h3 : d.cur < 1
        · exact .inl ⟨h3, hp⟩
        by_cases h4 : 2147483647 < d.cur
        · exact .inr (.inl ⟨by omega, h4, hp⟩)
        by_cases h5 : d.next < 0
        · exact .inr (.inr (.inl ⟨by omega, by omega, h5, hp⟩))
        by_cases h6 : 2147483647 < d.next
        · exact .inr (.inr (.inr (.inl ⟨by omega, by omega, by omega, h6, hp⟩)))
        · refine .inr (.inr (.inr (.inr ⟨by omega, by omega, by omega, by omega, ?_, hp⟩)))
          cases hv : stV d.sec d.nano
          · rfl
          · exact absurd ⟨h1, h2, by omega, by omega, by omega, by omega, hv⟩ h
      · exact .inr (.inl ⟨e1, fun e => h2 (.inl e), fun e => h2 (.inr e), hp⟩)
    · exact .inl ⟨by rw [bne_iff_ne]; omega, hp⟩

end Go.Proofs.Ytnhfeoniiadjfaa.Help
/- The walk of prefix.Valid. -/
namespace Go.Proofs.Ytnhfeoniiadjfaa.Pfx
open Go.RowKit Go.Proofs.Ytnhfeoniiadjfaa.K Go.Proofs.Ytnhfeoniiadjfaa.Help
set_option linter.unusedVariables false

/-- a world that meets G -/
structure Cls (G : World → Prop) where
  W : World
  ok : G W
/-- a region that only reads, at the class of worlds that meet G: whatever its calls make, G holds -/
theorem wp_region_quiet_cls {P : Program} {id : Nat} {Q : Exit → Act → World → Prop} {a : Act} {w : World} {l : List Oper} (G : World → Prop) (hm : P.follows .mixedOrders = true) (hB : Region.lexB .any l.toArray = true) (hC : G { w with drawn := w.drawn + 1 })
    (h : wpQuiet P l.toArray (fun w' => ∃ p : Cls G, w' = p.W) (fun a' => ∀ w', (∃ p : Cls G, w' = p.W) → Q .normal a' w') l a) : (Code.region id l.toArray true).wp P Q a w :=
  wp_region_quiet (C := fun w' => ∃ p : Cls G, w' = p.W) hm hB ⟨⟨_, hC⟩, rfl⟩ (by simpa using h)
theorem calls_cls {P : Program} {f : FuncId} {args : Array Value} {G : World → Prop} {p : Cls G} {v : Value} (hG : ∀ W W' : World, G W → Below W.heap.size W W' → G W')
    (h : Calls P f args p.W (Pure p.W v)) : Calls P f args p.W fun e w'' => e = .returned v ∧ ∃ q : Cls G, w'' = q.W :=
  h.mono fun _ w2 ⟨he, hb⟩ => ⟨he, ⟨w2, hG _ _ p.ok hb⟩, rfl⟩
theorem pure_of_same {P : Program} {f : FuncId} {args : Array Value} {w : World} {v : Value} (h : Calls P f args w fun e w' => e = .returned v ∧ w = w') : Calls P f args w (Pure w v) :=
  h.mono fun _ _ ⟨he, hw⟩ => ⟨he, by rw [← hw]; exact Below.refl _ _⟩

theorem pvB_cases (fam : Int) (hi lo : Nat) (bits : Int) : (vaB fam hi lo = false ∧ pvB fam hi lo bits = false) ∨ (vaB fam hi lo = true ∧ decide (0 ≤ bits) = false ∧ pvB fam hi lo bits = false) ∨
    (vaB fam hi lo = true ∧ decide (0 ≤ bits) = true ∧ decide (bits ≤ (pw fam : Int)) = false ∧ pvB fam hi lo bits = false) ∨
    (vaB fam hi lo = true ∧ ∃ n : Nat, bits = n ∧ n ≤ pw fam ∧ ((fam = 4 ∧ hi = 0 ∧ lo < 4294967296 ∧ pvB fam hi lo bits = decide (lo % 2 ^ (32 - n) = 0)) ∨ (fam = 6 ∧ pvB fam hi lo bits = (decide (hi % 2 ^ (64 - min n 64) = 0) && decide (lo % 2 ^ (128 - max n 64) = 0))))) := by
  unfold pvB
  cases hv : vaB fam hi lo
  · exact .inl ⟨rfl, by simp⟩
  · by_cases h1 : 0 ≤ bits
    · by_cases h2 : bits ≤ (pw fam : Int)
      · refine .inr (.inr (.inr ⟨rfl, bits.toNat, by omega, by omega, ?_⟩))
        have hd := of_decide_eq_true hv
        rcases hd with rfl | ⟨rfl, h3, h4⟩
        · refine .inr ⟨rfl, ?_⟩
          rw [if_neg (by decide)]
          simp [h1, h2]
        · refine .inl ⟨rfl, h3, h4, ?_⟩
          rw [if_pos rfl]
          simp [h1, h2]
      · exact .inr (.inr (.inl ⟨rfl, decide_eq_true h1, decide_eq_false h2, by simp [h2]⟩))
    · exact .inr (.inl ⟨rfl, decide_eq_false h1, by simp [h1]⟩)
end Go.Proofs.Ytnhfeoniiadjfaa.Pfx
/- The walks of the program's PutAddr and Put. -/
namespace Go.Proofs.Ytnhfeoniiadjfaa.Pfx
open Go.RowKit Go.Proofs.Ytnhfeoniiadjfaa.K Go.Proofs.Ytnhfeoniiadjfaa.Help
set_option linter.unusedVariables false

/-- an address's bytes -/
def paBytes (fam : Int) (hi lo : Nat) : List UInt8 := if fam = 4 then be 4 lo else be 8 hi ++ be 8 lo
theorem paBytes_len {fam : Int} {hi lo : Nat} : 4 ≤ (paBytes fam hi lo).length ∧ (paBytes fam hi lo).length ≤ 16 := by
  unfold paBytes
  split
  · simp [be_len]
  · simp [be_len]
/-- a prefix's bytes -/
def pfBytes (fam : Int) (hi lo : Nat) (bits : Int) : List UInt8 := if pvB fam hi lo bits = true then [UInt8.ofNat fam.toNat, UInt8.ofNat bits.toNat] ++ paBytes fam hi lo else []
theorem pvB_spec {fam : Int} {hi lo : Nat} {bits : Int} (h : pvB fam hi lo bits = true) : vaB fam hi lo = true ∧ 0 ≤ bits ∧ bits ≤ 128 ∧ (fam = 4 ∨ fam = 6) := by
  unfold pvB at h
  simp only [Bool.and_eq_true] at h
  have hf := vaB_fam h.1.1.1
  have h1 := of_decide_eq_true h.1.1.2
  have h2 := of_decide_eq_true h.1.2
  refine ⟨h.1.1.1, h1, ?_, hf⟩
  rcases hf with rfl | rfl
  · have : pw 4 = 32 := rfl
    omega
  · have : pw 6 = 128 := rfl
    omega
end Go.Proofs.Ytnhfeoniiadjfaa.Pfx
/- The walk of the document's bit. -/
namespace Go.Proofs.Ytnhfeoniiadjfaa.Pfx
open Go.RowKit Go.Proofs.Ytnhfeoniiadjfaa.K Go.Proofs.Ytnhfeoniiadjfaa.Help
set_option linter.unusedVariables false

/-- an address as one number -/
def xNum (fam : Int) (hi lo : Nat) : Nat := if fam = 4 then lo else hi * 18446744073709551616 + lo
def abit (fam : Int) (hi lo i : Nat) : Bool := decide (xNum fam hi lo / 2 ^ (pw fam - 1 - i) % 2 = 1)
theorem and1 (x j : Nat) (hx : x < 18446744073709551616) : (bits .and .u64 ((x : Int) / 2 ^ j) 1 == 1) = decide (x / 2 ^ j % 2 = 1) := by
  have hc : (x : Int) / 2 ^ j = ((x / 2 ^ j : Nat) : Int) := by push_cast; rfl
  have hb := band_eq (a := x / 2 ^ j) (b := 1) (by unfold B64; exact Nat.lt_of_le_of_lt (Nat.div_le_self _ _) hx) (by unfold B64; decide)
  have h1 : band (x / 2 ^ j) 1 = x / 2 ^ j % 2 := by unfold band; exact Nat.and_one_is_mod _
  rw [h1] at hb
  have hb2 : bits .and .u64 ((x / 2 ^ j : Nat) : Int) 1 = ((x / 2 ^ j % 2 : Nat) : Int) := hb
  rw [hc, hb2]
  by_cases h : x / 2 ^ j % 2 = 1
  · rw [h]; rfl
  · rw [decide_eq_false h, beq_eq_false_iff_ne]; omega
theorem abit4 (lo i : Nat) : abit 4 0 lo i = decide (lo / 2 ^ (31 - i) % 2 = 1) := rfl
theorem abit6a (hi lo i : Nat) (hl : lo < 18446744073709551616) (h : i < 64) : abit 6 hi lo i = decide (hi / 2 ^ (127 - i - 64) % 2 = 1) := by
  have e : xNum 6 hi lo / 2 ^ (pw 6 - 1 - i) = hi / 2 ^ (127 - i - 64) := by
    have e1 : xNum 6 hi lo = hi * 18446744073709551616 + lo := if_neg (by decide)
    have e2 : pw 6 - 1 - i = 64 + (127 - i - 64) := by have : pw 6 = 128 := rfl; omega
    have e3 : (2 : Nat) ^ 64 = 18446744073709551616 := by decide
    have e4 : (hi * 18446744073709551616 + lo) / 18446744073709551616 = hi := by omega
    rw [e1, e2, Nat.pow_add, ← Nat.div_div_eq_div_mul, e3, e4]
  unfold abit
  rw [e]
theorem abit6b (hi lo i : Nat) (h : 64 ≤ i) (h2 : i < 128) : abit 6 hi lo i = decide (lo / 2 ^ (127 - i) % 2 = 1) := by
  have e : xNum 6 hi lo / 2 ^ (pw 6 - 1 - i) % 2 = lo / 2 ^ (127 - i) % 2 := by
    have e1 : xNum 6 hi lo = hi * 18446744073709551616 + lo := if_neg (by decide)
    obtain ⟨k, hk⟩ : ∃ k, 127 - i = k := ⟨_, rfl⟩
    have e2 : pw 6 - 1 - i = k := by have : pw 6 = 128 := rfl; omega
    rw [e1, e2, hk]
    have hp : (18446744073709551616 : Nat) = 2 ^ (63 - k) * 2 * 2 ^ k := by
      rw [← Nat.pow_succ, ← Nat.pow_add, show 63 - k + 1 + k = 64 by omega]
    rw [hp, ← Nat.mul_assoc, Nat.add_comm, Nat.add_mul_div_right _ _ (Nat.pow_pos (by omega)), ← Nat.mul_assoc]
    omega
  unfold abit
  rw [e]
end Go.Proofs.Ytnhfeoniiadjfaa.Pfx
/- The walk of the document's Valid. -/
namespace Go.Proofs.Ytnhfeoniiadjfaa.Pfx
open Go.RowKit Go.Proofs.Ytnhfeoniiadjfaa.K Go.Proofs.Ytnhfeoniiadjfaa.Help
set_option linter.unusedVariables false

theorem mod_bits (x m : Nat) : x % 2 ^ m = 0 ↔ ∀ j, j < m → x.testBit j = false := by
  constructor
  · intro h j hj
    have := Nat.testBit_mod_two_pow x m j
    rw [h, Nat.zero_testBit] at this
    simpa [hj] using this.symm
  · intro h
    apply Nat.eq_of_testBit_eq
    intro j
    rw [Nat.testBit_mod_two_pow, Nat.zero_testBit]
    by_cases hj : j < m
    · simp [h j hj]
    · simp [hj]
theorem x6_mod (hi lo n : Nat) (hl : lo < 18446744073709551616) (hn : n ≤ 128) : (hi * 18446744073709551616 + lo) % 2 ^ (128 - n) = 0 ↔ (hi % 2 ^ (64 - min n 64) = 0 ∧ lo % 2 ^ (128 - max n 64) = 0) := by
  have hB : (2 : Nat) ^ 64 = 18446744073709551616 := by decide
  by_cases h : n ≤ 64
  · rw [show 64 - min n 64 = 64 - n by omega, show 128 - max n 64 = 64 by omega, show 128 - n = 64 + (64 - n) by omega, Nat.pow_add, hB, Nat.mod_mul]
    have e1 : (hi * 18446744073709551616 + lo) % 18446744073709551616 = lo := by omega
    have e2 : (hi * 18446744073709551616 + lo) / 18446744073709551616 = hi := by omega
    rw [e1, e2, Nat.mod_eq_of_lt hl]
    omega
  · obtain ⟨k, hk⟩ : ∃ k, 128 - n = k := ⟨_, rfl⟩
    have hp : (18446744073709551616 : Nat) = 2 ^ (64 - k) * 2 ^ k := by
      rw [← Nat.pow_add, show 64 - k + k = 64 by omega]
    rw [show 64 - min n 64 = 0 by omega, show 128 - max n 64 = k by omega, hk, hp, ← Nat.mul_assoc, Nat.add_comm, Nat.add_mul_mod_self_right]
    simp [Nat.mod_one]
/-- a prefix: its address has no bit behind the first ones -/
theorem pvB_bits (fam : Int) (hi lo n : Nat) (hl : lo < 18446744073709551616) (hv : vaB fam hi lo = true) (hn : n ≤ pw fam) :
    pvB fam hi lo n = true ↔ ∀ i, n ≤ i → i < pw fam → abit fam hi lo i = false := by
  have key : pvB fam hi lo n = true ↔ xNum fam hi lo % 2 ^ (pw fam - n) = 0 := by
    unfold pvB
    rw [hv]
    have hd := of_decide_eq_true hv
    rcases hd with rfl | ⟨rfl, rfl, _⟩
    · have hp : pw 6 = 128 := rfl
      have e1 : xNum 6 hi lo = hi * 18446744073709551616 + lo := if_neg (by decide)
      rw [e1, hp, x6_mod hi lo n hl (by omega), if_neg (by decide)]
      have h2 : ((n : Int)).toNat = n := by omega
      rw [h2]
      have h0 : (0 : Int) ≤ (n : Int) := by omega
      have h1 : (n : Int) ≤ ((128 : Nat) : Int) := by omega
      simp [h0]
      omega
    · have hp : pw 4 = 32 := rfl
      have e1 : xNum 4 0 lo = lo := if_pos rfl
      rw [e1, hp, if_pos rfl]
      have h2 : ((n : Int)).toNat = n := by omega
      rw [h2]
      simp
      omega
  rw [key, mod_bits]
  constructor
  · intro h i h1 h2
    have := h (pw fam - 1 - i) (by omega)
    unfold abit
    rwa [Nat.testBit_eq_decide_div_mod_eq] at this
  · intro h j hj
    have := h (pw fam - 1 - j) (by omega) (by omega)
    unfold abit at this
    rw [show pw fam - 1 - (pw fam - 1 - j) = j by omega] at this
    rwa [Nat.testBit_eq_decide_div_mod_eq]
end Go.Proofs.Ytnhfeoniiadjfaa.Pfx
/- The walks of the document's PutAddr and Put. -/
namespace Go.Proofs.Ytnhfeoniiadjfaa.Pfx
open Go.RowKit Go.Proofs.Ytnhfeoniiadjfaa.K Go.Proofs.Ytnhfeoniiadjfaa.Help
set_option linter.unusedVariables false

theorem be_app (a b hi lo : Nat) (hl : lo < 256 ^ b) : be (a + b) (hi * 256 ^ b + lo) = be a hi ++ be b lo := by
  have hb : ∀ (b x y : Nat), be b (x * 256 ^ b + y) = be b y := by
    intro b
    induction b with
    | zero => intro x y; rfl
    | succ n ih =>
      intro x y
      simp only [be]
      have h1 : x * 256 ^ (n + 1) = x * 256 * 256 ^ n := by rw [Nat.pow_succ, Nat.mul_assoc, Nat.mul_comm 256]
      have h2 : 2 ^ (8 * n) = 256 ^ n := by rw [Nat.pow_mul]
      rw [h1, ih (x * 256) y, h2]
      congr 1
      rw [Nat.add_comm, Nat.add_mul_div_right _ _ (Nat.pow_pos (by omega))]
      apply UInt8.toNat_inj.1
      simp
  induction a with
  | zero => rw [Nat.zero_add, hb]; rfl
  | succ n ih =>
    rw [show n + 1 + b = (n + b) + 1 by omega]
    simp only [be, ih, List.cons_append]
    congr 2
    have h2 : 2 ^ (8 * (n + b)) = 256 ^ b * 2 ^ (8 * n) := by rw [Nat.pow_mul, Nat.pow_mul, Nat.pow_add, Nat.mul_comm]
    rw [h2, ← Nat.div_div_eq_div_mul, Nat.add_comm, Nat.add_mul_div_right _ _ (Nat.pow_pos (by omega)), Nat.div_eq_of_lt hl, Nat.zero_add]
theorem paBytes_be (fam : Int) (hi lo : Nat) (hl : lo < 18446744073709551616) (hv : vaB fam hi lo = true) : be (pw fam / 8) (xNum fam hi lo) = paBytes fam hi lo := by
  rcases vaB_fam hv with rfl | rfl
  · rfl
  · have h1 : xNum 6 hi lo = hi * 18446744073709551616 + lo := if_neg (by decide)
    have h2 : paBytes 6 hi lo = be 8 hi ++ be 8 lo := if_neg (by decide)
    have h3 : pw 6 / 8 = 8 + 8 := rfl
    rw [h1, h2, h3]
    exact be_app 8 8 hi lo hl
theorem bit_step (X m k : Nat) : X / 2 ^ m % 2 ^ (k + 1) = 2 * (X / 2 ^ (m + 1) % 2 ^ k) + X / 2 ^ m % 2 := by
  rw [Nat.pow_succ 2 m, ← Nat.div_div_eq_div_mul]
  generalize X / 2 ^ m = y
  rw [Nat.pow_succ, Nat.mul_comm (2 ^ k) 2, Nat.mod_mul]
  omega
section
variable {w wr w2 : World} {cs : Array Value} {v : Value} {l : List UInt8}
end
end Go.Proofs.Ytnhfeoniiadjfaa.Pfx
/- The walks of the document's Put and of Reader.Err. -/
namespace Go.Proofs.Ytnhfeoniiadjfaa.Pfx
open Go.RowKit Go.Proofs.Ytnhfeoniiadjfaa.K Go.Proofs.Ytnhfeoniiadjfaa.Help
set_option linter.unusedVariables false

/-- what Err answers -/
theorem err_any (g rb p : Nat) (L : List UInt8) (err : Int) (w : World) (h : Rdr w g rb L p err) :
    Calls Try.prog 72 #[.pointer (some ⟨g, 0, none⟩)] w (Quiet (.tuple #[.int .i64 err, .int .i64 (p : Int)]) w) := by
  have c1 := h.c1
  have c2 := h.c2
  clear h
  go_enter Try.func72, Try.ntmps72
  go_wp2_with fail
  go_quiet (fail)
  go_wp2_with fail
  go_ret2
  exact ⟨_, rfl, rfl⟩
end Go.Proofs.Ytnhfeoniiadjfaa.Pfx
/- The walks of the document's laneOK and PutLane. -/
namespace Go.Proofs.Ytnhfeoniiadjfaa.Help
open Go.RowKit Go.Proofs.Ytnhfeoniiadjfaa.K
set_option linter.unusedVariables false

def laneOkB (d : LaneD) : Bool := decide (laneOk d)
/-- the tests of laneOK, one after another -/
theorem laneOk_cases (d : LaneD) : ∃ s : Bool, stV d.sec d.nano = s ∧ (
    (((d.key.length : Int) == 32) = false ∧ laneOkB d = false) ∨ (((d.key.length : Int) == 32) = true ∧ (d.side == 0) = false ∧ (d.side == 1) = false ∧ laneOkB d = false) ∨
    (((d.key.length : Int) == 32) = true ∧ ((d.side == 0) = true ∨ ((d.side == 0) = false ∧ (d.side == 1) = true)) ∧ (
      (s = false ∧ laneOkB d = false) ∨ (s = true ∧ decide (1 ≤ d.cur) = false ∧ laneOkB d = false) ∨ (s = true ∧ decide (1 ≤ d.cur) = true ∧ decide (d.cur ≤ 2147483647) = false ∧ laneOkB d = false) ∨
      (s = true ∧ decide (1 ≤ d.cur) = true ∧ decide (d.cur ≤ 2147483647) = true ∧ decide (0 ≤ d.next) = false ∧ laneOkB d = false) ∨
      (s = true ∧ decide (1 ≤ d.cur) = true ∧ decide (d.cur ≤ 2147483647) = true ∧ decide (0 ≤ d.next) = true ∧ decide (d.next ≤ 2147483647) = laneOkB d)))) := by
  refine ⟨_, rfl, ?_⟩
  by_cases h1 : d.key.length = 32
  · have e1 : ((d.key.length : Int) == 32) = true := by rw [beq_iff_eq]; omega
    by_cases h2 : d.side = 0 ∨ d.side = 1
    · refine .inr (.inr ⟨e1, ?_, ?_⟩)
      · rcases h2 with h2 | h2
        · exact .inl (by rw [h2]; rfl)
        · exact .inr ⟨by rw [h2]; rfl, by rw [h2]; rfl⟩
      · cases hs : stV d.sec d.nano
        · exact .inl ⟨rfl, decide_eq_false (fun h => by have := h.2.2.2.2.2.2; rw [hs] at this; cases this)⟩
        · by_cases h3 : 1 ≤ d.cur
          · by_cases h4 : d.cur ≤ 2147483647
            · by_cases h5 : 0 ≤ d.next
              · refine .inr (.inr (.inr (.inr ⟨rfl, decide_eq_true h3, decide_eq_true h4, decide_eq_true h5, ?_⟩)))
                unfold laneOkB
                by_cases h6 : d.next ≤ 2147483647
                · rw [decide_eq_true h6, decide_eq_true ⟨h1, h2, h3, h4, h5, h6, hs⟩]
                · rw [decide_eq_false h6, decide_eq_false (fun h => h6 h.2.2.2.2.2.1)]
              · exact .inr (.inr (.inr (.inl ⟨rfl, decide_eq_true h3, decide_eq_true h4, decide_eq_false h5, decide_eq_false (fun h => h5 h.2.2.2.2.1)⟩)))
            · exact .inr (.inr (.inl ⟨rfl, decide_eq_true h3, decide_eq_false h4, decide_eq_false (fun h => h4 h.2.2.2.1)⟩))
          · exact .inr (.inl ⟨rfl, decide_eq_false h3, decide_eq_false (fun h => h3 h.2.2.1)⟩)
    · exact .inr (.inl ⟨e1, by rw [beq_eq_false_iff_ne]; exact fun e => h2 (.inl e), by rw [beq_eq_false_iff_ne]; exact fun e => h2 (.inr e), decide_eq_false (fun h => h2 h.2.1)⟩)
  · exact .inl ⟨by rw [beq_eq_false_iff_ne]; omega, decide_eq_false (fun h => h1 h.1)⟩

end Go.Proofs.Ytnhfeoniiadjfaa.Help
/- The walk of GetLane$1: what the two readers of a row tell of a lane. -/
namespace Go.Proofs.Ytnhfeoniiadjfaa.Help
open Go.RowKit Go.Proofs.Ytnhfeoniiadjfaa.K
set_option linter.unusedVariables false

/-- no cell of block g is a byte -/
def NoU8 (w : World) (g : Nat) : Prop := ∀ (j : Nat) (b : Int), w.cell? ⟨g, j, none⟩ ≠ some (.int .u8 b)
theorem cell_spot {w : World} {ad : Addr} {v : Value} (h : w.cell? ad = some v) : ad = ⟨ad.block, ad.off, none⟩ := by
  obtain ⟨b, o, s⟩ := ad
  cases s with
  | none => rfl
  | some x =>
    exfalso
    simp only [World.cell?] at h
    split at h
    · simp at h
    · cases h
theorem cell_blk {w w' : World} {ad : Addr} (h : w'.heap[ad.block]? = w.heap[ad.block]?) : w'.cell? ad = w.cell? ad := by
  simp only [World.cell?, h]
theorem bs_only {w w' : World} {A : Option Addr} {c : Nat} {l : List UInt8} {T : Nat → Prop} (h : Bs w A c l) (k : Only w w' T) (hT : ∀ i, T i → i < w.heap.size → NoU8 w i) : Bs w' A c l :=
  ⟨h.le, h.max, fun i hi => by
    obtain ⟨ad, e, hlt, hc⟩ := h.at_ i hi
    refine ⟨ad, e, Nat.lt_of_lt_of_le hlt k.size, ?_⟩
    have hb : (ad.add i).block = ad.block := addr_add_block ad i
    refine (cell_blk (k.block _ (by rw [hb]; exact hlt) (fun ht => ?_))).trans hc
    have hs := cell_spot hc
    rw [hs] at hc
    exact hT _ ht (by rw [hb]; exact hlt) _ _ hc⟩
theorem NoU8.of {w : World} {g : Nat} {cs : Array Value} {t : TypeId} {fr : Nat × Nat} (h : w.heap[g]? = some (.cells cs t fr)) (hn : ∀ (j : Nat) (b : Int), cs[j]? ≠ some (.int .u8 b)) : NoU8 w g := by
  intro j b e; rw [blk_cell h] at e; exact hn j b e
theorem noU8_3 (x y z : Value) (hx : ∀ b, x ≠ .int .u8 b) (hy : ∀ b, y ≠ .int .u8 b) (hz : ∀ b, z ≠ .int .u8 b) : ∀ (j : Nat) (b : Int), (#[x, y, z] : Array Value)[j]? ≠ some (.int .u8 b) := by
  intro j b e
  match j with
  | 0 => simp at e; exact hx b e
  | 1 => simp at e; exact hy b e
  | 2 => simp at e; exact hz b e
  | (j + 3) => simp at e
theorem Rdr.noU8 {w : World} {g rb p : Nat} {L : List UInt8} {err : Int} (h : Rdr w g rb L p err) : NoU8 w g :=
  NoU8.of h.b (noU8_3 _ _ _ (by intro b e; cases e) (by intro b e; cases e) (by intro b e; cases e))
/-- a lane's cells -/
def lnC (A : Option Addr) (n c : Nat) (side cur next sc ce se na : Int) : Array Value := #[.slice A n c, .int .i64 side, .int .i64 cur, .int .i64 next, .int .u64 sc, .int .u64 ce, .int .i64 se, .int .i64 na]
theorem lnC_noU8 (A : Option Addr) (n c : Nat) (side cur next sc ce se na : Int) : ∀ (j : Nat) (b : Int), (lnC A n c side cur next sc ce se na)[j]? ≠ some (.int .u8 b) := by
  intro j b e
  unfold lnC at e
  match j with
  | 0 => simp at e
  | 1 => simp at e
  | 2 => simp at e
  | 3 => simp at e
  | 4 => simp at e
  | 5 => simp at e
  | 6 => simp at e
  | 7 => simp at e
  | (j + 8) => simp at e
section
variable {w w' w2 : World} {gk gv rv : Nat} {v : List UInt8} {p : Nat} {er : Int} {A : Option Addr} {c : Nat} {key : List UInt8} {N : Nat} {side cur next sc ce se na : Int}
end
/-- a box that is filled cell by cell with no bytes -/
structure RB (w W : World) (T : Nat → Prop) (A : Option Addr) (c : Nat) (key : List UInt8) (R : Nat) (t : TypeId) (cs : Array Value) : Prop where
  r : W.heap[R]? = some (.cells cs t (0, 0))
  nu : ∀ (j : Nat) (b : Int), cs[j]? ≠ some (.int .u8 b)
  bs : Bs W A c key
  only : Only w W T
  hR : w.heap.size ≤ R
theorem RB.set {w W : World} {T : Nat → Prop} {A : Option Addr} {c : Nat} {key : List UInt8} {R : Nat} {t : TypeId} {cs : Array Value} (h : RB w W T A c key R t cs) (j : Nat) (u : Value) (hu : ∀ b, u ≠ .int .u8 b) :
    RB w (W.setCell ⟨R, j, none⟩ u) T A c key R t (cs.setIfInBounds j u) := by
  have o : Only W (W.setCell ⟨R, j, none⟩ u) (fun k => k = R) := (Only.refl W (fun k => k = R)).setCell (p := ⟨R, j, none⟩) (.inl rfl) u
  refine ⟨blk_set h.r j u, ?_, bs_only h.bs o (fun i hi _ => by rw [hi]; exact NoU8.of h.r h.nu), h.only.then_ o (fun i hi => .inr (by rw [hi]; exact h.hR)), h.hR⟩
  intro i b e
  rw [Array.getElem?_setIfInBounds] at e
  split at e
  · split at e
    · injection e with e; exact hu b e
    · cases e
  · exact h.nu i b e
/-- the answer's box filled -/
def fill8 (w' : World) (R : Nat) (A : Option Addr) (n c : Nat) (side cur next sc ce se na : Int) : World :=
  (((((((w'.setCell ⟨R, 0, none⟩ (.slice A n c)).setCell ⟨R, 1, none⟩ (.int .i64 side)).setCell ⟨R, 2, none⟩ (.int .i64 cur)).setCell ⟨R, 3, none⟩ (.int .i64 next)).setCell ⟨R, 4, none⟩ (.int .u64 sc)).setCell ⟨R, 5, none⟩ (.int .u64 ce)).setCell ⟨R, 6, none⟩ (.int .i64 se)).setCell ⟨R, 7, none⟩ (.int .i64 na)
theorem RB.put {w W : World} {T : Nat → Prop} {A : Option Addr} {c : Nat} {key : List UInt8} {R : Nat} {t : TypeId} {cs : Array Value} (h : RB w W T A c key R t cs) (j : Nat) (u : Value) (hu : ∀ b, u ≠ .int .u8 b) {cs' : Array Value} (e : cs.setIfInBounds j u = cs') :
    RB w (W.setCell ⟨R, j, none⟩ u) T A c key R t cs' := by rw [← e]; exact h.set j u hu
theorem RB.c {w W : World} {T : Nat → Prop} {A : Option Addr} {c : Nat} {key : List UInt8} {R : Nat} {t : TypeId} {cs : Array Value} (h : RB w W T A c key R t cs) (j : Nat) : W.cell? ⟨R, j, none⟩ = cs[j]? := blk_cell h.r j
/-- what the readers tell -/
def laneRd (k v : List UInt8) : LaneD :=
  let t0 := takes k 0 1 0
  let tk := takes k t0.2.2.1 (Left k t0.2.2.1 t0.2.2.2) t0.2.2.2
  let t1 := takes v 0 1 0
  let t2 := takes v t1.2.2.1 4 t1.2.2.2
  let t3 := takes v t2.2.2.1 4 t2.2.2.2
  let t4 := takes v t3.2.2.1 8 t3.2.2.2
  let t5 := takes v t4.2.2.1 8 t4.2.2.2
  let t6 := takes v t5.2.2.1 (Left v t5.2.2.1 t5.2.2.2) t5.2.2.2
  let s := stGet t6.1
  ⟨tk.1, val t1.1, val t2.1, val t3.1, val t4.1, val t5.1, s.1, s.2.1⟩
def LaneR (w : World) (gk rk gv : Nat) (d : LaneD) (e : Ending) (w' : World) : Prop := ∃ A c, e = .returned (laneV A c d) ∧ Bs w' A c d.key ∧ Only w w' (fun i => i = gk ∨ i = gv) ∧ At A rk
theorem Left_le (L : List UInt8) (p : Nat) (err : Int) : Left L p err ≤ L.length := by unfold Left; split <;> omega

end Go.Proofs.Ytnhfeoniiadjfaa.Help
/- The walk of read[Lane]. -/
namespace Go.Proofs.Ytnhfeoniiadjfaa.Help
open Go.RowKit Go.Proofs.Ytnhfeoniiadjfaa.K
set_option linter.unusedVariables false

def zeroLane : LaneD := ⟨[], 0, 0, 0, 0, 0, 0, 0⟩
/-- what GetLane answers: the lane and the error -/
def laneGet (k v : List UInt8) : LaneD × Int := if (putLane (laneRd k v)).2.2 = 0 ∧ (putLane (laneRd k v)).1 = k ∧ (putLane (laneRd k v)).2.1 = v then (laneRd k v, 0) else (zeroLane, 114)
def GotL (w : World) (t : LaneD × Int) (e : Ending) (w' : World) : Prop := ∃ A c, e = .returned (.tuple #[laneV A c t.1, .int .i64 t.2]) ∧ Bs w' A c t.1.key ∧ Below w.heap.size w w' ∧ Nw w A
section
variable {w w' w2 : World} {x y : Value}
end

theorem RB.below {w W : World} {A : Option Addr} {c : Nat} {key : List UInt8} {R : Nat} {t : TypeId} {cs : Array Value} (h : RB w W (fun _ => False) A c key R t cs) : Below w.heap.size w W := h.only.below (fun k hk => hk.elim) (Nat.le_refl _)
theorem stGet_le (l : List UInt8) : (stGet l).1 ≤ 9223372036854775807 := by
  unfold stGet
  split
  · split
    · decide
    · dsimp only; omega
  · decide
theorem laneRd_b (k v : List UInt8) : LaneB (laneRd k v) := by
  have h8 : ∀ (L : List UInt8) p e, val (takes L p 8 e).1 < 18446744073709551616 := fun L p e => Nat.lt_of_lt_of_le (val_pow (takes_len L p 8 e).1) (by decide)
  exact ⟨h8 _ _ _, h8 _ _ _, stGet_le _⟩

end Go.Proofs.Ytnhfeoniiadjfaa.Help
/- The walks of GetLane, Lane, SameLane. -/
namespace Go.Proofs.Ytnhfeoniiadjfaa.Help
open Go.RowKit Go.Proofs.Ytnhfeoniiadjfaa.K
set_option linter.unusedVariables false

section
variable {t : TypeId} {w w' w2 : World} {cs : Array Value}
end

/-- a lane in new memory -/
def LaneC (w : World) (d : LaneD) (e : Ending) (w' : World) : Prop := ∃ A c, e = .returned (laneV A c d) ∧ Bs w' A c d.key ∧ Below w.heap.size w w' ∧ Nw w A
end Go.Proofs.Ytnhfeoniiadjfaa.Help
/- The walk of SameLane over two lanes of the same data. -/
namespace Go.Proofs.Ytnhfeoniiadjfaa.Help
open Go.RowKit Go.Proofs.Ytnhfeoniiadjfaa.K
set_option linter.unusedVariables false

/-- a row in new memory -/
def RowC (w : World) (k v : List UInt8) (e : Ending) (w' : World) : Prop := ∃ A a B b, e = .returned (.agg #[.slice A k.length a, .slice B v.length b]) ∧ Bs w' A a k ∧ Bs w' B b v ∧ Below w.heap.size w w'
theorem noU8_2 (x y : Value) (hx : ∀ b, x ≠ .int .u8 b) (hy : ∀ b, y ≠ .int .u8 b) : ∀ (j : Nat) (b : Int), (#[x, y] : Array Value)[j]? ≠ some (.int .u8 b) := by
  intro j b e
  match j with
  | 0 => simp at e; exact hx b e
  | 1 => simp at e; exact hy b e
  | (j + 2) => simp at e
theorem rowc_done {t : TypeId} {w w2 : World} {cs : Array Value} {A1 A2 : Option Addr} {c1 c2 : Nat} {k v : List UInt8} (h : LnS t w w2 cs) (s1 : Bs w2 A1 c1 k) (s2 : Bs w2 A2 c2 v) :
    RowC w k v (.returned (.agg #[.slice A1 k.length c1, .slice A2 v.length c2])) ((w2.setCell ⟨w.heap.size + 1, 0, none⟩ (.slice A1 k.length c1)).setCell ⟨w.heap.size + 1, 1, none⟩ (.slice A2 v.length c2)) := by
  have ho : Only w2 ((w2.setCell ⟨w.heap.size + 1, 0, none⟩ (.slice A1 k.length c1)).setCell ⟨w.heap.size + 1, 1, none⟩ (.slice A2 v.length c2)) (fun k => k = w.heap.size + 1) :=
    ((Only.refl w2 (fun k => k = w.heap.size + 1)).setCell (p := ⟨w.heap.size + 1, 0, none⟩) (.inl rfl) _).setCell (p := ⟨w.heap.size + 1, 1, none⟩) (.inl rfl) _
  have hn : ∀ i, i = w.heap.size + 1 → i < w2.heap.size → NoU8 w2 i := fun i hi _ => by rw [hi]; exact NoU8.of h.r (noU8_2 _ _ (by intro b e; cases e) (by intro b e; cases e))
  exact ⟨A1, c1, A2, c2, rfl, bs_only s1 ho hn, bs_only s2 ho hn, below_only h.below ho (fun i hi => by rw [hi]; omega)⟩
end Go.Proofs.Ytnhfeoniiadjfaa.Help
/- Plain: what the readers tell of a lane's row. -/
namespace Go.Proofs.Ytnhfeoniiadjfaa.Help
open Go.RowKit Go.Proofs.Ytnhfeoniiadjfaa.K
set_option linter.unusedVariables false

theorem val_cons (b : UInt8) (l : List UInt8) : val (b :: l) = b.toNat * 256 ^ l.length + val l := by
  have aux : ∀ (l : List UInt8) (x : Nat), l.foldl (fun x b => x * 256 + b.toNat) x = x * 256 ^ l.length + l.foldl (fun x b => x * 256 + b.toNat) 0 := by
    intro l
    induction l with
    | nil => intro x; simp
    | cons c l ih =>
      intro x
      simp only [List.foldl_cons, List.length_cons]
      rw [ih (x * 256 + c.toNat), ih (0 * 256 + c.toNat), Nat.pow_succ, Nat.add_mul, Nat.add_mul]
      have : x * 256 * 256 ^ l.length = x * (256 ^ l.length * 256) := by rw [Nat.mul_assoc, Nat.mul_comm 256]
      omega
  unfold val
  rw [List.foldl_cons, aux l (0 * 256 + b.toNat)]
  simp
theorem val_be (n x : Nat) : val (be n x) = x % 256 ^ n := by
  induction n with
  | zero => simp [be, val, Nat.mod_one]
  | succ n ih =>
    rw [be, val_cons, ih, be_len, Nat.mod_pow_succ]
    have : 2 ^ (8 * n) = 256 ^ n := by rw [Nat.pow_mul]
    rw [this]
    have h2 : (UInt8.ofNat (x / 256 ^ n)).toNat = x / 256 ^ n % 256 := by simp
    rw [h2, Nat.mul_comm]
    omega
theorem takes_ok {L : List UInt8} {p n : Nat} (h : p + n ≤ L.length) : takes L p n 0 = (cutN L p n, true, p + n, 0) := by
  unfold takes
  rw [if_neg (by simp), if_neg (by omega)]
theorem cut_mid (A B C : List UInt8) {p n : Nat} (hp : A.length = p) (hn : B.length = n) : cutN (A ++ (B ++ C)) p n = B := by
  unfold cutN
  subst hp hn
  rw [List.drop_left, List.take_left]
theorem laneRd_len {k v : List UInt8} (hk : k.length = 33) (hv : v.length = 37) :
    laneRd k v = ⟨k.drop 1, val (cutN v 0 1), val (cutN v 1 4), val (cutN v 5 4), val (cutN v 9 8), val (cutN v 17 8), (stGet (v.drop 25)).1, (stGet (v.drop 25)).2.1⟩ := by
  unfold laneRd
  have e0 : takes k 0 1 0 = (cutN k 0 1, true, 1, 0) := takes_ok (by omega)
  have e1 : takes v 0 1 0 = (cutN v 0 1, true, 1, 0) := takes_ok (by omega)
  have e2 : takes v 1 4 0 = (cutN v 1 4, true, 5, 0) := takes_ok (by omega)
  have e3 : takes v 5 4 0 = (cutN v 5 4, true, 9, 0) := takes_ok (by omega)
  have e4 : takes v 9 8 0 = (cutN v 9 8, true, 17, 0) := takes_ok (by omega)
  have e5 : takes v 17 8 0 = (cutN v 17 8, true, 25, 0) := takes_ok (by omega)
  have l0 : Left k 1 0 = 32 := by unfold Left; simp; omega
  have l5 : Left v 25 0 = 12 := by unfold Left; simp; omega
  have e6 : takes v 25 12 0 = (cutN v 25 12, true, 37, 0) := takes_ok (by omega)
  have ek : takes k 1 32 0 = (cutN k 1 32, true, 33, 0) := takes_ok (by omega)
  have c1 : cutN k 1 32 = k.drop 1 := List.take_of_length_le (by rw [List.length_drop]; omega)
  have c2 : cutN v 25 12 = v.drop 25 := List.take_of_length_le (by rw [List.length_drop]; omega)
  simp only [e0, e1, e2, e3, e4, e5, e6, ek, l0, l5, c1, c2]
theorem laneGet_bad {k v : List UInt8} (h : k.length ≠ 33 ∨ v.length ≠ 37) : laneGet k v = (zeroLane, 114) := by
  refine if_neg (fun hh => ?_)
  have := putLane_len hh.1
  rw [hh.2.1, hh.2.2] at this
  omega
theorem stGet_put {sec nano : Nat} (h1 : sec ≤ 9223372036854775807) (h2 : nano ≤ 999999999) : stGet (stPut sec nano) = ((sec : Int), (nano : Int), 0) := by
  unfold stGet
  have e1 : (stPut sec nano).take 8 = be 8 sec := by unfold stPut; rw [List.take_append_of_le_length (by rw [be_len]; omega), List.take_of_length_le (by rw [be_len]; omega)]
  have e2 : (stPut sec nano).drop 8 = be 4 nano := by unfold stPut; rw [List.drop_append_of_le_length (by rw [be_len]; omega), List.drop_of_length_le (by rw [be_len]; omega)]; rfl
  have v1 : val (be 8 sec) = sec := by rw [val_be, Nat.mod_eq_of_lt (by omega)]
  have v2 : val (be 4 nano) = nano := by rw [val_be, Nat.mod_eq_of_lt (by omega)]
  rw [if_pos (stPut_len ..), e1, e2, v1, v2, if_neg (by omega)]
/-- P15.3 for lanes: Get behind Put -/
theorem laneGet_put {d : LaneD} (hd : LaneB d) (h : laneOk d) : laneGet (putLane d).1 (putLane d).2.1 = (d, 0) := by
  have hp := putLane_yes h
  obtain ⟨key, side, cur, next, sc, ceil, sec, nano⟩ := d
  obtain ⟨b1, b2, b3⟩ := hd
  dsimp only at b1 b2 b3
  obtain ⟨g1, g2, g3, g4, g5, g6, hv⟩ := h
  dsimp only at g1 g2 g3 g4 g5 g6 hv
  have hst : 0 ≤ sec ∧ 0 ≤ nano ∧ nano ≤ 999999999 := by unfold stV at hv; simp at hv; omega
  obtain ⟨cu, rfl⟩ : ∃ n : Nat, cur = n := ⟨cur.toNat, by omega⟩
  obtain ⟨ne, rfl⟩ : ∃ n : Nat, next = n := ⟨next.toNat, by omega⟩
  obtain ⟨se, rfl⟩ : ∃ n : Nat, sec = n := ⟨sec.toNat, by omega⟩
  obtain ⟨na, rfl⟩ : ∃ n : Nat, nano = n := ⟨nano.toNat, by omega⟩
  obtain ⟨sd, rfl, hsd⟩ : ∃ n : Nat, side = n ∧ n ≤ 1 := ⟨side.toNat, by omega, by omega⟩
  dsimp only [Int.toNat_natCast] at hp
  have hr : laneRd (putLane ⟨key, sd, cu, ne, sc, ceil, se, na⟩).1 (putLane ⟨key, sd, cu, ne, sc, ceil, se, na⟩).2.1 = ⟨key, sd, cu, ne, sc, ceil, se, na⟩ := by
    rw [hp]
    dsimp only
    rw [laneRd_len (by simp [g1]) (laneVal_len ..)]
    have ev : laneVal sd cu ne sc ceil se na = [] ++ ([UInt8.ofNat sd] ++ (be 4 cu ++ (be 4 ne ++ (be 8 sc ++ (be 8 ceil ++ stPut se na))))) := by simp [laneVal]
    have c0 : cutN (laneVal sd cu ne sc ceil se na) 0 1 = [UInt8.ofNat sd] := by rw [ev]; exact cut_mid [] _ _ rfl rfl
    have c1 : cutN (laneVal sd cu ne sc ceil se na) 1 4 = be 4 cu := by
      rw [ev, List.nil_append]; exact cut_mid [UInt8.ofNat sd] _ _ rfl (be_len _ _)
    have c2 : cutN (laneVal sd cu ne sc ceil se na) 5 4 = be 4 ne := by
      rw [ev, List.nil_append, ← List.append_assoc]; exact cut_mid ([UInt8.ofNat sd] ++ be 4 cu) _ _ (by simp [be_len]) (be_len _ _)
    have c3 : cutN (laneVal sd cu ne sc ceil se na) 9 8 = be 8 sc := by
      rw [ev, List.nil_append, ← List.append_assoc, ← List.append_assoc]; exact cut_mid ([UInt8.ofNat sd] ++ be 4 cu ++ be 4 ne) _ _ (by simp [be_len]) (be_len _ _)
    have c4 : cutN (laneVal sd cu ne sc ceil se na) 17 8 = be 8 ceil := by
      rw [ev, List.nil_append, ← List.append_assoc, ← List.append_assoc, ← List.append_assoc]; exact cut_mid ([UInt8.ofNat sd] ++ be 4 cu ++ be 4 ne ++ be 8 sc) _ _ (by simp [be_len]) (be_len _ _)
    have c5 : (laneVal sd cu ne sc ceil se na).drop 25 = stPut se na := by
      have : laneVal sd cu ne sc ceil se na = ([UInt8.ofNat sd] ++ be 4 cu ++ be 4 ne ++ be 8 sc ++ be 8 ceil) ++ stPut se na := by simp [laneVal]
      rw [this]; exact List.drop_left' (by simp [be_len])
    rw [c0, c1, c2, c3, c4, c5, stGet_put (by omega) (by omega)]
    have v0 : val [UInt8.ofNat sd] = sd := by
      simp [val]; omega
    rw [v0, val_be, val_be, val_be, val_be, Nat.mod_eq_of_lt (by omega), Nat.mod_eq_of_lt (by omega), Nat.mod_eq_of_lt (by omega), Nat.mod_eq_of_lt (by omega)]
    simp
  unfold laneGet
  rw [hr]
  exact if_pos ⟨by rw [hp], rfl, rfl⟩
end Go.Proofs.Ytnhfeoniiadjfaa.Help
/- The walk of the document's Addr: the address that bytes say. -/
namespace Go.Proofs.Ytnhfeoniiadjfaa.Pfx
open Go.RowKit Go.Proofs.Ytnhfeoniiadjfaa.K Go.Proofs.Ytnhfeoniiadjfaa.Help
set_option linter.unusedVariables false

def adC (fam : Int) (hi lo : Nat) : Array Value := #[.int .i64 fam, .int .u64 (hi : Int), .int .u64 (lo : Int)]
theorem adC_noU8 (fam : Int) (hi lo : Nat) : ∀ (j : Nat) (b : Int), (adC fam hi lo)[j]? ≠ some (.int .u8 b) :=
  noU8_3 _ _ _ (by intro b e; cases e) (by intro b e; cases e) (by intro b e; cases e)
section
variable {w wr : World} {A : Option Addr} {c : Nat} {l : List UInt8} {fam : Int} {hi lo : Nat}
end
theorem or_nat (v b : Nat) (hv : v < 72057594037927936) (hb : b < 256) : bor (v * 256) b = v * 256 + b := by
  unfold bor
  have := Nat.shiftLeft_add_eq_or_of_lt (i := 8) (b := b) (by omega) v
  rw [Nat.shiftLeft_eq] at this
  simpa using this.symm
theorem or_int (v b : Nat) (hv : v < 72057594037927936) (hb : b < 256) (x y : Int) (hx : x = ((v * 256 : Nat) : Int)) (hy : y = (b : Int)) : bits .or .u64 x y = ((v * 256 + b : Nat) : Int) := by
  rw [hx, hy, bor_eq (a := v * 256) (b := b) (by unfold B64; omega) (by unfold B64; omega), or_nat v b hv hb]
end Go.Proofs.Ytnhfeoniiadjfaa.Pfx
/- The walks of cmp.Or and of both Compares of prefixes. -/
namespace Go.Proofs.Ytnhfeoniiadjfaa.Pfx
open Go.RowKit Go.Proofs.Ytnhfeoniiadjfaa.K Go.Proofs.Ytnhfeoniiadjfaa.Help
set_option linter.unusedVariables false

/-- the first that is not zero -/
def firstNZ : List Int → Int
  | [] => 0
  | x :: r => if x = 0 then firstNZ r else x
def ints (xs : List Int) : Array Value := (xs.map fun x => Value.int .i64 x).toArray
theorem ints_at (xs : List Int) (k : Nat) (h : k < xs.length) : (ints xs)[k]? = some (.int .i64 (xs.getD k 0)) := by simp [ints, h]
theorem drop_cons (xs : List Int) (k : Nat) (h : k < xs.length) : xs.drop k = xs.getD k 0 :: xs.drop (k + 1) := by
  rw [List.drop_eq_getElem_cons h]; simp [h]
/-- a prefix's cells -/
def pfC (fam : Int) (hi lo : Nat) (bits : Int) : Array Value := #[.int .i64 fam, .int .u64 (hi : Int), .int .u64 (lo : Int), .int .i64 bits]
def cmpP (fam : Int) (hi lo : Nat) (bits : Int) (fam' : Int) (hi' lo' : Nat) (bits' : Int) : Int := firstNZ [ord fam fam', ord bits bits', ord hi hi', ord lo lo']
/-- two boxes -/
structure TwoC (t1 t2 : TypeId) (w w' : World) (x y : Array Value) : Prop where
  a : w'.heap[w.heap.size]? = some (.cells x t1 (0, 0))
  b : w'.heap[w.heap.size + 1]? = some (.cells y t2 (0, 0))
  below : Below w.heap.size w w'
theorem TwoC.start (t1 t2 : TypeId) (w : World) (x y : Array Value) : TwoC t1 t2 w ((w.alloc (.cells x t1)).alloc (.cells y t2)) x y :=
  ⟨blk_alloc (blk_new _ _) _, by have := blk_new (w.alloc (.cells x t1)) (.cells y t2); simpa using this, below_alloc (below_alloc (Below.refl _ _) _) _⟩
theorem TwoC.drewN {t1 t2 : TypeId} {w w' : World} {x y : Array Value} (h : TwoC t1 t2 w w' x y) (n : Nat) : TwoC t1 t2 w (w'.drewN n) x y := ⟨h.a, h.b, below_drewN h.below n⟩

end Go.Proofs.Ytnhfeoniiadjfaa.Pfx
/- The walk of the document's GetLane. -/
namespace Go.Proofs.Ytnhfeoniiadjfaa.Help
open Go.RowKit Go.Proofs.Ytnhfeoniiadjfaa.K
set_option linter.unusedVariables false

theorem bs_drop {w : World} {ad : Addr} {c : Nat} {l : List UInt8} (h : Bs w (some ad) c l) {n : Nat} (hn : n ≤ l.length) : Bs w (some (ad.add n)) (c - n) (l.drop n) := by
  refine ⟨by rw [List.length_drop]; have := h.le; omega, by rw [List.length_drop]; have := h.max; omega, fun i hi => ?_⟩
  rw [List.length_drop] at hi
  obtain ⟨ad', e, hlt, hc⟩ := h.at_ (n + i) (by omega)
  cases e
  refine ⟨_, rfl, by rw [addr_add_block]; exact hlt, ?_⟩
  have e2 : (ad.add n).add i = ad.add (n + i) := by unfold Addr.add; by_cases hi : n = 0 <;> by_cases hj : i = 0 <;> simp [hi, hj, Nat.add_assoc]
  rw [e2, hc]
  congr 3
  simp
theorem fill8_only (W : World) (X : Nat) (A : Option Addr) (n c : Nat) (side cur next sc ce se na : Int) : Only W (fill8 W X A n c side cur next sc ce se na) (fun k => k = X) := by
  unfold fill8
  exact ((((((((Only.refl W (fun k => k = X)).setCell (p := ⟨X, 0, none⟩) (.inl rfl) _).setCell (p := ⟨X, 1, none⟩) (.inl rfl) _).setCell (p := ⟨X, 2, none⟩) (.inl rfl) _).setCell (p := ⟨X, 3, none⟩) (.inl rfl) _).setCell (p := ⟨X, 4, none⟩) (.inl rfl) _).setCell (p := ⟨X, 5, none⟩) (.inl rfl) _).setCell (p := ⟨X, 6, none⟩) (.inl rfl) _).setCell (p := ⟨X, 7, none⟩) (.inl rfl) _
theorem rdAt_cut {v : List UInt8} {a n : Nat} (h : a + n ≤ v.length) : rdAt v a n = val (cutN v a n) := by
  unfold rdAt cutN; rw [if_neg (by omega)]
theorem rdAt_pow (v : List UInt8) (a n : Nat) : rdAt v a n < 256 ^ n := by
  unfold rdAt
  split
  · exact Nat.pow_pos (by decide)
  · exact val_pow (by rw [List.length_take]; omega)
theorem stErr_of_same {d : LaneD} {v : List UInt8} (hd : LaneB d) (h0 : (putLane d).2.2 = 0) (h : (putLane d).2.1 = v) : (stGet (v.drop 25)).2.2 = 0 := by
  by_cases hok : laneOk d
  · rw [putLane_yes hok] at h
    dsimp only at h
    obtain ⟨_, _, _, _, _, _, hv⟩ := hok
    have hst : 0 ≤ d.sec ∧ 0 ≤ d.nano ∧ d.nano ≤ 999999999 := by unfold stV at hv; simp at hv; omega
    have hs := hd.sec
    have e : v.drop 25 = stPut d.sec.toNat d.nano.toNat := by
      rw [← h]
      unfold laneVal
      exact List.drop_left' (by simp [be_len])
    rw [e, stGet_put (by omega) (by omega)]
  · rw [putLane_no hok] at h0; cases h0
section
variable {w W w2 : World} {x y : Value} {X : Nat} {A : Option Addr} {c : Nat} {key : List UInt8} {side cur next sc ce se na : Int}
end
end Go.Proofs.Ytnhfeoniiadjfaa.Help
/- The walk of the document's Get of a prefix. -/
namespace Go.Proofs.Ytnhfeoniiadjfaa.Pfx
open Go.RowKit Go.Proofs.Ytnhfeoniiadjfaa.K Go.Proofs.Ytnhfeoniiadjfaa.Help
set_option linter.unusedVariables false

/-- a prefix: family, the two halves, the bits -/
abbrev PfxD := Int × Nat × Nat × Nat
/-- what Get answers: the prefix, the bytes used, the code -/
def pfxGet (l : List UInt8) : PfxD × Nat × Int :=
  if l.length < 2 then ((0, 0, 0, 0), 0, 70)
  else if pw ((l.getD 0 0).toNat : Int) / 8 = 0 ∨ l.length < 2 + pw ((l.getD 0 0).toNat : Int) / 8 then ((0, 0, 0, 0), 0, 70)
  else if pvB ((l.getD 0 0).toNat : Int) (val ((l.drop 2).take (pw ((l.getD 0 0).toNat : Int) / 8)) / 18446744073709551616) (val ((l.drop 2).take (pw ((l.getD 0 0).toNat : Int) / 8)) % 18446744073709551616) ((l.getD 1 0).toNat : Int) = true
    then ((((l.getD 0 0).toNat : Int), val ((l.drop 2).take (pw ((l.getD 0 0).toNat : Int) / 8)) / 18446744073709551616, val ((l.drop 2).take (pw ((l.getD 0 0).toNat : Int) / 8)) % 18446744073709551616, (l.getD 1 0).toNat), 2 + pw ((l.getD 0 0).toNat : Int) / 8, 0)
  else ((0, 0, 0, 0), 0, 70)
def pfV (d : PfxD) : Value := .agg #[.int .i64 d.1, .int .u64 (d.2.1 : Int), .int .u64 (d.2.2.1 : Int), .int .i64 (d.2.2.2 : Int)]
def pgV (r : PfxD × Nat × Int) : Value := .tuple #[pfV r.1, .int .i64 (r.2.1 : Int), .int .i64 r.2.2]
section
variable {w w' w2 : World}
end
end Go.Proofs.Ytnhfeoniiadjfaa.Pfx
/- The walk of the document's Get of a prefix: the bytes are there. -/
namespace Go.Proofs.Ytnhfeoniiadjfaa.Pfx
open Go.RowKit Go.Proofs.Ytnhfeoniiadjfaa.K Go.Proofs.Ytnhfeoniiadjfaa.Help
set_option linter.unusedVariables false
theorem bs_take {w : World} {A : Option Addr} {c : Nat} {l : List UInt8} (h : Bs w A c l) (n : Nat) : Bs w A c (l.take n) := by
  have hl : (l.take n).length ≤ l.length := by rw [List.length_take]; omega
  refine ⟨by have := h.le; omega, by have := h.max; omega, fun i hi => ?_⟩
  obtain ⟨ad, e, hlt, hc⟩ := h.at_ i (by omega)
  rw [List.length_take] at hi
  refine ⟨ad, e, hlt, ?_⟩
  rw [hc]
  simp [show i < n by omega]
end Go.Proofs.Ytnhfeoniiadjfaa.Pfx
/- The walk of Get of a prefix. -/
namespace Go.Proofs.Ytnhfeoniiadjfaa.Pfx
open Go.RowKit Go.Proofs.Ytnhfeoniiadjfaa.K Go.Proofs.Ytnhfeoniiadjfaa.Help
set_option linter.unusedVariables false

/-- what the reader reads -/
def pfxRd (L : List UInt8) : PfxD × Nat × Int :=
  if val (takes L 0 1 0).1 = 4 then
    ((4, 0, val (takes L (takes L (takes L 0 1 0).2.2.1 1 (takes L 0 1 0).2.2.2).2.2.1 4 (takes L (takes L 0 1 0).2.2.1 1 (takes L 0 1 0).2.2.2).2.2.2).1, val (takes L (takes L 0 1 0).2.2.1 1 (takes L 0 1 0).2.2.2).1),
     (takes L (takes L (takes L 0 1 0).2.2.1 1 (takes L 0 1 0).2.2.2).2.2.1 4 (takes L (takes L 0 1 0).2.2.1 1 (takes L 0 1 0).2.2.2).2.2.2).2.2)
  else
    (((val (takes L 0 1 0).1 : Int), val (takes L (takes L (takes L 0 1 0).2.2.1 1 (takes L 0 1 0).2.2.2).2.2.1 8 (takes L (takes L 0 1 0).2.2.1 1 (takes L 0 1 0).2.2.2).2.2.2).1,
      val (takes L (takes L (takes L (takes L 0 1 0).2.2.1 1 (takes L 0 1 0).2.2.2).2.2.1 8 (takes L (takes L 0 1 0).2.2.1 1 (takes L 0 1 0).2.2.2).2.2.2).2.2.1 8 (takes L (takes L (takes L 0 1 0).2.2.1 1 (takes L 0 1 0).2.2.2).2.2.1 8 (takes L (takes L 0 1 0).2.2.1 1 (takes L 0 1 0).2.2.2).2.2.2).2.2.2).1,
      val (takes L (takes L 0 1 0).2.2.1 1 (takes L 0 1 0).2.2.2).1),
     (takes L (takes L (takes L (takes L 0 1 0).2.2.1 1 (takes L 0 1 0).2.2.2).2.2.1 8 (takes L (takes L 0 1 0).2.2.1 1 (takes L 0 1 0).2.2.2).2.2.2).2.2.1 8 (takes L (takes L (takes L 0 1 0).2.2.1 1 (takes L 0 1 0).2.2.2).2.2.1 8 (takes L (takes L 0 1 0).2.2.1 1 (takes L 0 1 0).2.2.2).2.2.2).2.2.2).2.2)
def pfxFin (r : PfxD × Nat × Int) : PfxD × Nat × Int :=
  if r.2.2 ≠ 0 ∨ pvB r.1.1 r.1.2.1 r.1.2.2.1 (r.1.2.2.2 : Int) = false then ((0, 0, 0, 0), 0, 70) else (r.1, r.2.1, 0)
section
variable {w W W2 : World} {g rb : Nat} {L : List UInt8} {p : Nat} {er : Int} {X : Nat} {fam : Int} {hi lo : Nat} {bits : Int}
end
section
variable {w W W2 : World} {g rb : Nat} {L : List UInt8} {p : Nat} {er : Int}
end
end Go.Proofs.Ytnhfeoniiadjfaa.Pfx
/- The plain law of Get of a prefix: what the reader reads is what the document says. -/
namespace Go.Proofs.Ytnhfeoniiadjfaa.Pfx
open Go.RowKit Go.Proofs.Ytnhfeoniiadjfaa.K Go.Proofs.Ytnhfeoniiadjfaa.Help
set_option linter.unusedVariables false

theorem takes_err {L : List UInt8} {p n : Nat} {e : Int} (h : e ≠ 0) : takes L p n e = ([], false, p, e) := by unfold takes; simp [h]
theorem ten : (10 : Int) ≠ 0 := by decide
theorem takes_no {L : List UInt8} {p n : Nat} (h : L.length < p + n) (hn : 0 < n) : ∃ q, takes L p n 0 = ([], false, q, 10) := by
  refine ⟨p, ?_⟩
  unfold takes
  rw [if_neg (by simp), if_pos (by omega)]
theorem val_app2 (a b : List UInt8) : val (a ++ b) = val a * 256 ^ b.length + val b := by
  induction a with
  | nil => simp [val]
  | cons x r ih => rw [List.cons_append, val_cons, val_cons, ih, List.length_append, Nat.pow_add, Nat.add_mul]; simp [Nat.mul_assoc, Nat.add_assoc]
theorem val_one (l : List UInt8) (k : Nat) (h : k < l.length) : val (cutN l k 1) = (l.getD k 0).toNat := by
  have : cutN l k 1 = [l.getD k 0] := by
    unfold cutN
    rw [List.drop_eq_getElem_cons h, List.getD_eq_getElem?_getD, List.getElem?_eq_getElem h]
    rfl
  rw [this]
  simp [val]
theorem take_cut (l : List UInt8) (p n m : Nat) (h : p + n ≤ m) : cutN (l.take m) p n = cutN l p n := by
  unfold cutN
  rw [List.drop_take, List.take_take, Nat.min_eq_left (by omega)]
theorem take_getD (l : List UInt8) (k m : Nat) (h : k < m) : (l.take m).getD k 0 = l.getD k 0 := by
  rw [List.getD_eq_getElem?_getD, List.getD_eq_getElem?_getD, List.getElem?_take_of_lt h]
theorem pfxFin_bad {r : PfxD × Nat × Int} (h : r.2.2 ≠ 0) : pfxFin r = ((0, 0, 0, 0), 0, 70) := if_pos (.inl h)
theorem pvB_other {fam : Int} {hi lo : Nat} {bits : Int} (h4 : fam ≠ 4) (h6 : fam ≠ 6) : pvB fam hi lo bits = false := by
  cases h : pvB fam hi lo bits
  · rfl
  · obtain ⟨-, -, -, hf⟩ := pvB_spec h
    omega
theorem pfx_law (l : List UInt8) : pfxFin (pfxRd (l.take 18)) = pfxGet l := by
  have hLl : (l.take 18).length = min 18 l.length := List.length_take ..
  have tc := fun p n h => take_cut l p n 18 h
  have tg := fun k h => take_getD l k 18 h
  generalize hL : l.take 18 = L at *
  unfold pfxGet
  by_cases h2 : l.length < 2
  · rw [if_pos h2]
    apply pfxFin_bad
    unfold pfxRd
    by_cases h1 : l.length < 1
    · obtain ⟨q, hq⟩ := takes_no (L := L) (p := 0) (n := 1) (by omega) (by omega)
      simp only [hq, takes_err ten]
      rw [if_neg (by simp [val])]
      exact ten
    · rw [takes_ok (L := L) (p := 0) (n := 1) (by omega)]
      dsimp only
      obtain ⟨q, hq⟩ := takes_no (L := L) (p := 0 + 1) (n := 1) (by omega) (by omega)
      simp only [hq, takes_err ten]
      split <;> exact ten
  · rw [if_neg h2]
    unfold pfxRd
    rw [takes_ok (L := L) (p := 0) (n := 1) (by omega)]
    dsimp only
    rw [takes_ok (L := L) (p := 0 + 1) (n := 1) (by omega)]
    dsimp only
    rw [val_one L 0 (by omega), val_one L (0 + 1) (by omega), tg 0 (by omega), tg (0 + 1) (by omega)]
    simp only [Nat.zero_add, Nat.reduceAdd]
    have hb0 := (l.getD 0 0).toNat_lt
    generalize (l.getD 0 0).toNat = x0 at *
    generalize (l.getD 1 0).toNat = x1 at *
    by_cases h4 : x0 = 4
    · subst h4
      rw [if_pos rfl, show pw ((4 : Nat) : Int) / 8 = 4 from rfl]
      by_cases hn : l.length < 6
      · rw [if_pos (.inr (by omega))]
        obtain ⟨q, hq⟩ := takes_no (L := L) (p := 2) (n := 4) (by omega) (by omega)
        rw [hq]
        exact pfxFin_bad ten
      · rw [if_neg (by omega), takes_ok (L := L) (p := 2) (n := 4) (by omega), tc 2 4 (by omega)]
        dsimp only
        have hv : val (cutN l 2 4) < 4294967296 := val_pow (k := 4) (by unfold cutN; rw [List.length_take]; omega)
        have e : (l.drop 2).take 4 = cutN l 2 4 := rfl
        rw [e, show val (cutN l 2 4) / 18446744073709551616 = 0 by omega, show val (cutN l 2 4) % 18446744073709551616 = val (cutN l 2 4) by omega]
        generalize val (cutN l 2 4) = v at *
        unfold pfxFin
        dsimp only
        cases hp : pvB 4 0 v (x1 : Int)
        · rw [if_pos (.inr rfl)]
          exact (if_neg (by decide)).symm
        · rw [if_neg (by simp)]
          exact (if_pos rfl).symm
    · rw [if_neg h4]
      by_cases h6 : x0 = 6
      · subst h6
        rw [show pw ((6 : Nat) : Int) / 8 = 16 from rfl]
        by_cases hn : l.length < 18
        · rw [if_pos (.inr (by omega))]
          apply pfxFin_bad
          dsimp only
          by_cases h10 : l.length < 10
          · obtain ⟨q, hq⟩ := takes_no (L := L) (p := 2) (n := 8) (by omega) (by omega)
            simp only [hq, takes_err ten]
            exact ten
          · rw [takes_ok (L := L) (p := 2) (n := 8) (by omega)]
            dsimp only
            obtain ⟨q, hq⟩ := takes_no (L := L) (p := 2 + 8) (n := 8) (by omega) (by omega)
            rw [hq]
            exact ten
        · rw [if_neg (by omega), takes_ok (L := L) (p := 2) (n := 8) (by omega)]
          dsimp only
          rw [takes_ok (L := L) (p := 2 + 8) (n := 8) (by omega), tc 2 8 (by omega), tc (2 + 8) 8 (by omega)]
          dsimp only
          have hl : val (cutN l (2 + 8) 8) < 18446744073709551616 := Nat.lt_of_lt_of_le (val_pow (k := 8) (by unfold cutN; rw [List.length_take]; omega)) (by decide)
          have e : (l.drop 2).take 16 = cutN l 2 8 ++ cutN l (2 + 8) 8 := by
            unfold cutN
            rw [show (16 : Nat) = 8 + 8 from rfl, List.take_add, List.drop_drop]
          rw [e, val_app2, cutN_len (by omega), show (256 : Nat) ^ 8 = 18446744073709551616 from rfl]
          generalize val (cutN l 2 8) = hi at *
          generalize val (cutN l (2 + 8) 8) = lo at *
          rw [show (hi * 18446744073709551616 + lo) / 18446744073709551616 = hi by omega, show (hi * 18446744073709551616 + lo) % 18446744073709551616 = lo by omega]
          unfold pfxFin
          dsimp only
          cases hp : pvB ((6 : Nat) : Int) hi lo (x1 : Int)
          · rw [if_pos (.inr rfl), if_neg (by decide)]
          · rw [if_neg (by simp), if_pos rfl]
      · have hp0 : pw (x0 : Int) = 0 := by unfold pw; rw [if_neg (by omega), if_neg (by omega)]
        rw [hp0, if_pos (.inl rfl)]
        exact if_pos (.inr (pvB_other (by dsimp only; omega) (by dsimp only; omega)))
end Go.Proofs.Ytnhfeoniiadjfaa.Pfx
/- The walk of the closed sentence 'first'. -/
namespace Go.Proofs.Ytnhfeoniiadjfaa.Help
open Go.RowKit Go.Proofs.Ytnhfeoniiadjfaa.K
set_option linter.unusedVariables false

theorem putBoots_258 : putBoots 258 = ([66], [0, 0, 0, 0, 0, 0, 1, 2], 0) := by decide
def firstLane : LaneD := ⟨List.replicate 32 9, 1, 1, 0, 0, 1000, 5, 6⟩
theorem firstLane_b : LaneB firstLane := ⟨by decide, by decide, by decide⟩
theorem firstLane_ok : laneOk firstLane := by decide
theorem blk_step {W W2 : World} {g : Nat} {o : Obj} (h : W.heap[g]? = some o) (hb : Below W.heap.size W W2) : W2.heap[g]? = some o := (hb.block _ (blk_lt h)).trans h
end Go.Proofs.Ytnhfeoniiadjfaa.Help
/- How a law's statement follows from a walk that ends in true and leaves all old memory as it was. -/
namespace Go.Proofs.Ytnhfeoniiadjfaa.K
open Go.ChangeShapes Go.WideShapes Go.ChangeAt Go.RowKit

theorem trodAll_below {H : Type} {enc : TypeId × Value → H} {P : Program} (hl : laidOutB P = true) {W W' : World} (hb : Below W.heap.size W W') {sp : Nat → Bool} :
    ∀ (ts : List TypeId) (vs : List Value) (ds : List (DataW H)) (ps : List MemPlace), (∀ t ∈ ts, P.readableRec t = true ∧ t < P.types.size) → DataW.TrodAll enc P W 0 (fun _ => true) true ts vs ds ps →
      (∀ p ∈ ps, p.block < W.heap.size) → (∀ p ∈ ps, sp p.block = true) → DataW.TrodAll enc P W' 0 sp true ts vs ds ps := by
  intro ts
  induction ts with
  | nil =>
    intro vs ds ps _ h _ _
    obtain ⟨rfl, rfl, rfl⟩ := trodAll_nil h
    exact trodAll_mk0
  | cons t ts ih =>
    intro vs ds ps hr h hlt hsp
    obtain ⟨v, vs', d, ds', p, q, rfl, rfl, rfl, h1, h2⟩ := trodAll_cons h
    have hp : ∀ x ∈ p, x ∈ p ++ q := fun x hx => List.mem_append.2 (.inl hx)
    have hq : ∀ x ∈ q, x ∈ p ++ q := fun x hx => List.mem_append.2 (.inr hx)
    exact trodAll_cons_mk (WideElems.Trod_stays hl (hr t (by simp)).1 (hr t (by simp)).2 h1 (fun x hx => hb.same (hlt x (hp x hx))) (fun x hx => hsp x (hp x hx)))
      (ih vs' ds' q (fun t ht => hr t (by simp [ht])) h2 (fun x hx => hlt x (hq x hx)) (fun x hx => hsp x (hq x hx)))

theorem post_law {H : Type} {enc : TypeId × Value → H} {P : Program} {f : Func} {s : ChangeSpec} {apart : Bool} {W W' : World} {args : Array Value} {ds : List (DataW H)} {before : List MemPlace} (hl : laidOutB P = true)
    (hr : ∀ t ∈ f.params.toList, P.readableRec t = true ∧ t < P.types.size) (hW : DataW.Whole enc P f.params.toList [] apart W args.toList ds [] before) (hv : s.vars = [])
    (hs : s.fn H ds = { results := [.lit (.bool true)], args := ds }) {tb : TypeId} (hrt : f.resultTypes = #[tb]) (htb : P.underlying tb = some .bool) (hb : Below W.heap.size W W') :
    s.post enc P f apart true false false W args (.bool true) W' := by
  have hlt : ∀ p ∈ before, p.block < W.heap.size := fun p hp => hW.lt p hp
  have hold : ∀ p ∈ before, (fun b => decide (b < W.heap.size)) p.block = true := fun p hp => by simpa using hlt p hp
  have hW' := hW
  obtain ⟨p, q, hA0, hV, rfl, _, _⟩ := hW
  obtain ⟨_, rfl⟩ := trodVars_none hV
  simp only [List.append_nil] at *
  have hA : DataW.TrodAll enc P W 0 (fun _ => true) true f.params.toList args.toList ds p := hA0
  have hargs : ∀ sp : Nat → Bool, (∀ x ∈ p, sp x.block = true) → DataW.TrodAll enc P W' 0 sp true f.params.toList args.toList ds p := fun sp h => trodAll_below hl hb _ _ _ _ hr hA hlt h
  have hres : ∀ (b : Nat) (sp : Nat → Bool) (hd : Bool), DataW.TrodAll enc P W' b sp hd f.resultTypes.toList ((Value.bool true).resultList f.resultTypes.size) [.lit (.bool true)] [] := fun b sp hd => by
    rw [hrt]; exact trodAll_mk1 (shut_bool htb true)
  refine ⟨ds, [], p, [], p, [], by rw [hv]; exact hW', by rw [List.append_nil, hs]; exact hres _ _ _, by rw [List.append_nil, hs]; exact hargs _ hold, by rw [hv, List.append_nil, hs]; exact rfl, World.keptBut_mono (fun x hx => ⟨hx, ?_⟩) (hb.frame (· ∈ p)), fun h => by cases h⟩
  simpa using hx

/-! arguments as they come in -/
/-- a slice of whole numbers that came in, nil let in -/
structure ReadsI (k : IntKind) (w : World) (A : Option Addr) (n : Nat) (xs : List Int) : Prop where
  len : xs.length = n
  max : n ≤ 9223372036854775807
  wf : ∀ x, x ∈ xs → (Lit.int k x).wf = true
  at_ : ∀ i, i < n → ∃ ad, A = some ad ∧ ad.block < w.heap.size ∧ w.cell? (ad.add i) = some (.int k (xs.getD i 0))
theorem block_add (a : Addr) (n : Nat) : (a.add n).block = a.block := by unfold Addr.add; split <;> rfl
theorem ReadsI.below {k : IntKind} {w w' : World} {A : Option Addr} {n : Nat} {xs : List Int} (h : ReadsI k w A n xs) (hb : Below w.heap.size w w') : ReadsI k w' A n xs :=
  ⟨h.len, h.max, h.wf, fun i hi => by
    obtain ⟨ad, e, hlt, hc⟩ := h.at_ i hi
    exact ⟨ad, e, Nat.lt_of_lt_of_le hlt hb.size, (hb.cell (p := ad.add i) (by rw [block_add]; exact hlt)).trans hc⟩⟩
theorem arg_ints {H : Type} {enc : TypeId × Value → H} {P : Program} {W : World} {k : IntKind} {b0 : Nat} {t e : TypeId} {v : Value} {d : DataW H} {ps : List MemPlace} (ht : P.underlying t = some (.slice e)) (he : P.underlying e = some (.int k)) (hc : P.cellsOf e = 1)
    (hval : Value.okWide P W .any b0 t v) (h : DataW.Trod enc P W 0 (fun _ => true) true t v d ps) : ∃ A len cap xs, v = .slice A len cap ∧ ReadsI k W A len xs ∧ xs.length = len ∧ len ≤ cap ∧ cap ≤ 9223372036854775807 := by
  obtain ⟨a0, len, cap, rfl⟩ := okWide_slice ht hval
  obtain ⟨fuel, hf⟩ := h
  rcases open_ints ht he hc hf with ⟨hcs, hx⟩ | ⟨a, len', cap', zs, hcs, _, hl, hm, hz, hx, hcell, hwz⟩
  · simp [Value.cells] at hcs
    obtain ⟨rfl, rfl, rfl⟩ := hcs
    exact ⟨none, 0, 0, [], rfl, ⟨rfl, by omega, (fun x hx => by cases hx), fun i hi => by omega⟩, rfl, by omega, by omega⟩
  · simp [Value.cells] at hcs
    obtain ⟨rfl, rfl, rfl⟩ := hcs
    simp only [if_true] at hz
    have hlt : (zs.take len).length = len := by rw [List.length_take]; omega
    unfold maxLen at hm
    refine ⟨some a, len, cap, zs.take len, rfl, ⟨hlt, by omega, fun x hx => hwz x (List.mem_of_mem_take hx), fun i hi => ⟨a, rfl, ?_, ?_⟩⟩, hlt, hl, by omega⟩
    · have := World.block_lt_of_cell? W (a.add 0) (hcell 0 (by omega))
      rwa [block_add] at this
    · rw [hcell i (by omega)]
      simp [List.getD_eq_getElem?_getD, hi]
theorem wf_u64 {a : Int} (h : (Lit.int .u64 a).wf = true) : 0 ≤ a ∧ a ≤ 18446744073709551615 := by simpa [Lit.wf, IntKind.min, IntKind.max, IntKind.signed, IntKind.bits] using h
theorem wf_i64 {a : Int} (h : (Lit.int .i64 a).wf = true) : -9223372036854775808 ≤ a ∧ a ≤ 9223372036854775807 := by simpa [Lit.wf, IntKind.min, IntKind.max, IntKind.signed, IntKind.bits] using h
theorem nat_u64 {a : Int} (h : (Lit.int .u64 a).wf = true) : ∃ n : Nat, a = n ∧ n < 18446744073709551616 := by
  have := wf_u64 h
  exact ⟨a.toNat, by omega, by omega⟩
/-- a slice of uint64 that came in -/
structure ReadsU (w : World) (A : Option Addr) (n : Nat) (xs : List Nat) : Prop where
  len : xs.length = n
  max : n ≤ 9223372036854775807
  lt : ∀ x, x ∈ xs → x < 18446744073709551616
  at_ : ∀ i, i < n → ∃ ad, A = some ad ∧ ad.block < w.heap.size ∧ w.cell? (ad.add i) = some (.int .u64 (xs.getD i 0 : Nat))
theorem ReadsU.below {w w' : World} {A : Option Addr} {n : Nat} {xs : List Nat} (h : ReadsU w A n xs) (hb : Below w.heap.size w w') : ReadsU w' A n xs :=
  ⟨h.len, h.max, h.lt, fun i hi => by
    obtain ⟨ad, e, hlt, hc⟩ := h.at_ i hi
    exact ⟨ad, e, Nat.lt_of_lt_of_le hlt hb.size, (hb.cell (p := ad.add i) (by rw [block_add]; exact hlt)).trans hc⟩⟩
theorem arg_u64s {H : Type} {enc : TypeId × Value → H} {P : Program} {W : World} {b0 : Nat} {t e : TypeId} {v : Value} {d : DataW H} {ps : List MemPlace} (ht : P.underlying t = some (.slice e)) (he : P.underlying e = some (.int .u64)) (hc : P.cellsOf e = 1)
    (hval : Value.okWide P W .any b0 t v) (h : DataW.Trod enc P W 0 (fun _ => true) true t v d ps) : ∃ A len cap xs, v = .slice A len cap ∧ ReadsU W A len xs ∧ xs.length = len ∧ len ≤ cap ∧ cap ≤ 9223372036854775807 := by
  obtain ⟨A, len, cap, xs, rfl, hr, h1, h2, h3⟩ := arg_ints ht he hc hval h
  refine ⟨A, len, cap, xs.map Int.toNat, rfl, ⟨by rw [List.length_map]; exact hr.len, hr.max, ?_, fun i hi => ?_⟩, by rw [List.length_map]; exact h1, h2, h3⟩
  · intro x hx
    obtain ⟨y, hy, rfl⟩ := List.mem_map.1 hx
    have := wf_u64 (hr.wf y hy)
    omega
  · obtain ⟨ad, e, hlt, hcell⟩ := hr.at_ i hi
    refine ⟨ad, e, hlt, hcell.trans ?_⟩
    have hi' : i < xs.length := by have := hr.len; omega
    have hw := wf_u64 (hr.wf _ (List.getElem_mem hi'))
    simp only [List.getD_eq_getElem?_getD, List.getElem?_map, List.getElem?_eq_getElem hi', Option.map_some, Option.getD_some]
    congr 2
    omega
end Go.Proofs.Ytnhfeoniiadjfaa.K
/- Rows and lanes as they come in. -/
namespace Go.Proofs.Ytnhfeoniiadjfaa.Help
open Go.ChangeShapes Go.WideShapes Go.ChangeAt Go.RowKit Go.Proofs.Ytnhfeoniiadjfaa.K
set_option linter.unusedVariables false
theorem cellsOf_u8 : Try.prog.cellsOf 5 = 1 := by kernel_rfl
theorem bytesOf_u8 : Try.prog.bytesOf 5 = 1 := by kernel_rfl
theorem cellsOf_bytes : Try.prog.cellsOf 27 = 1 := by kernel_rfl
theorem cellsOf_row : Try.prog.cellsOf 54 = 2 := by kernel_rfl
theorem cellsOf_int : Try.prog.cellsOf 3 = 1 := by kernel_rfl
theorem cellsOf_u64 : Try.prog.cellsOf 121 = 1 := by kernel_rfl
def Small {H : Type} (d : DataW H) (t : TypeId) : Prop := ∀ n ∈ d.weights Try.prog t, n ≤ reachBytes
theorem trod_bytes {H : Type} {enc : TypeId × Value → H} {W : World} {fuel : Nat} {cs : List Value} {y : DataW H × List MemPlace} (h : DataW.trod enc Try.prog W 0 (fun _ => true) true fuel 27 cs = some y) (hz : Small y.1 27) :
    ∃ A c l, cs = [.slice A l.length c] ∧ Bs W A c l := by
  rcases open_ints u_slice8 u_u8 cellsOf_u8 h with ⟨rfl, rfl⟩ | ⟨a, len, cap, zs, rfl, _, hl, hm, hlen, rfl, hcell, hwf⟩
  · exact ⟨none, 0, [], rfl, Bs.nil _ _ _⟩
  · simp only [if_true] at hlen
    have hr : zs.length ≤ reachBytes := by
      have := hz ((lits .u8 (zs.take len) : List (DataW H)).length + (lits .u8 (zs.drop len) : List (DataW H)).length) (by simp [DataW.weights, bytesOf_u8])
      have e : ((lits .u8 (zs.take len) : List (DataW H)).length + (lits .u8 (zs.drop len) : List (DataW H)).length) = zs.length := by
        simp [lits]
        omega
      rwa [e] at this
    have hr2 : reachBytes = 140737488351232 := rfl
    have hll : ((zs.take len).map fun n => UInt8.ofNat n.toNat).length = len := by simp; omega
    refine ⟨some a, cap, (zs.take len).map fun n => UInt8.ofNat n.toNat, by rw [hll], by rw [hll]; exact hl, by rw [hll]; omega, fun i hi => ?_⟩
    rw [hll] at hi
    have hc := hcell i (by omega)
    have hlt := World.block_lt_of_cell? W _ hc
    rw [addr_add_block] at hlt
    refine ⟨a, rfl, hlt, hc.trans ?_⟩
    have hi' : i < zs.length := by omega
    have hw := hwf _ (List.getElem_mem hi')
    have hw2 : 0 ≤ zs[i] ∧ zs[i] ≤ 255 := by simpa [Lit.wf, IntKind.min, IntKind.max, IntKind.signed, IntKind.bits] using hw
    have e1 : zs.getD i 0 = zs[i] := by simp [hi']
    have e2 : ((zs.take len).map fun n => UInt8.ofNat n.toNat).getD i 0 = UInt8.ofNat zs[i].toNat := by simp [hi, hi']
    rw [e1, e2]
    congr 2
    simp
    omega
theorem arr2 {cs : Array Value} (h : cs.size = 2) : ∃ c0 c1, cs = #[c0, c1] := by
  obtain ⟨l⟩ := cs
  match l, h with
  | [c0, c1], _ => exact ⟨c0, c1, rfl⟩
set_option maxRecDepth 100000 in
theorem arg_row {H : Type} {enc : TypeId × Value → H} {W : World} {b0 : Nat} {v : Value} {d : DataW H} {ps : List MemPlace}
    (hval : Value.okWide Try.prog W .any b0 54 v) (h : DataW.Trod enc Try.prog W 0 (fun _ => true) true 54 v d ps) (hz : Small d 54) :
    ∃ A B a b k x, v = .agg #[.slice A k.length a, .slice B x.length b] ∧ Bs W A a k ∧ Bs W B b x := by
  obtain ⟨cs, rfl, hsz⟩ := okWide_struct Try.underlying54 hval
  obtain ⟨c0, c1, rfl⟩ := arr2 (hsz.trans cellsOf_row)
  obtain ⟨fuel, hf⟩ := h
  obtain ⟨xs, n', _, hx, hl, hxs, hfl⟩ := DataW.trod_struct Try.underlying54 hf
  have f0 : DataW.trod enc Try.prog W 0 (fun _ => true) true n' 27 (([c0, c1].drop 0).take (Try.prog.cellsOf 27)) = xs[0]? := hfl 0 _ rfl
  have f1 : DataW.trod enc Try.prog W 0 (fun _ => true) true n' 27 (([c0, c1].drop 1).take (Try.prog.cellsOf 27)) = xs[1]? := hfl 1 _ rfl
  rw [cellsOf_bytes] at f0 f1
  have hxl : xs.length = 2 := hxs
  match xs, hxl with
  | [y0, y1], _ =>
    injection hx with hd hp
    subst hd
    have w0 : Small y0.1 27 := fun n hn => hz n (by simp only [DataW.weights, Try.underlying54]; simp [DataW.weightsEach]; exact .inl hn)
    have w1 : Small y1.1 27 := fun n hn => hz n (by simp only [DataW.weights, Try.underlying54]; simp [DataW.weightsEach]; exact .inr hn)
    obtain ⟨A, a, k, e0, s0⟩ := trod_bytes f0 w0
    obtain ⟨B, b, x, e1, s1⟩ := trod_bytes f1 w1
    simp at e0 e1
    subst e0 e1
    exact ⟨A, B, a, b, k, x, rfl, s0, s1⟩
theorem arr8 {cs : Array Value} (h : cs.size = 8) : ∃ c0 c1 c2 c3 c4 c5 c6 c7, cs = #[c0, c1, c2, c3, c4, c5, c6, c7] := by
  obtain ⟨l⟩ := cs
  match l, h with
  | [c0, c1, c2, c3, c4, c5, c6, c7], _ => exact ⟨c0, c1, c2, c3, c4, c5, c6, c7, rfl⟩
end Go.Proofs.Ytnhfeoniiadjfaa.Help
/- Peers as data, in memory, and as they come in. -/
namespace Go.Proofs.Ytnhfeoniiadjfaa.Peer
open Go.ChangeShapes Go.WideShapes Go.ChangeAt Go.RowKit Go.Proofs.Ytnhfeoniiadjfaa.K Go.Proofs.Ytnhfeoniiadjfaa.Help Go.Proofs.Ytnhfeoniiadjfaa.Pfx
set_option linter.unusedVariables false

/-- a prefix as it comes: family, halves, bits -/
abbrev PfxI := Int × Nat × Nat × Int
def zP : PfxI := (0, 0, 0, 0)
/-- prefixes in memory -/
structure Ps (w : World) (A : Option Addr) (c : Nat) (l : List PfxI) : Prop where
  le : l.length ≤ c
  max : c ≤ 9223372036854775807
  lt : ∀ x, x ∈ l → x.2.1 < 18446744073709551616 ∧ x.2.2.1 < 18446744073709551616
  at_ : ∀ i, i < l.length → ∃ bk off, A = some ⟨bk, off, none⟩ ∧ bk < w.heap.size ∧ w.cell? ⟨bk, off + i * 4, none⟩ = some (.int .i64 (l.getD i zP).1)
    ∧ w.cell? ⟨bk, off + i * 4 + 1, none⟩ = some (.int .u64 ((l.getD i zP).2.1 : Int)) ∧ w.cell? ⟨bk, off + i * 4 + 2, none⟩ = some (.int .u64 ((l.getD i zP).2.2.1 : Int))
    ∧ w.cell? ⟨bk, off + i * 4 + 3, none⟩ = some (.int .i64 (l.getD i zP).2.2.2)
section
variable {w w' : World} {A : Option Addr} {c : Nat} {l : List PfxI}
theorem Ps.below (h : Ps w A c l) (hb : Below w.heap.size w w') : Ps w' A c l :=
  ⟨h.le, h.max, h.lt, fun i hi => by
    obtain ⟨bk, off, e, hlt, h0, h1, h2, h3⟩ := h.at_ i hi
    exact ⟨bk, off, e, Nat.lt_of_lt_of_le hlt hb.size, (hb.cell (p := ⟨bk, _, none⟩) hlt).trans h0, (hb.cell (p := ⟨bk, _, none⟩) hlt).trans h1, (hb.cell (p := ⟨bk, _, none⟩) hlt).trans h2, (hb.cell (p := ⟨bk, _, none⟩) hlt).trans h3⟩⟩
theorem Ps.drewN (h : Ps w A c l) (n : Nat) : Ps (w.drewN n) A c l := ⟨h.le, h.max, h.lt, h.at_⟩
theorem Ps.nil (w : World) : Ps w none 0 [] := ⟨by simp, by simp, (fun x hx => by cases hx), fun i hi => by simp at hi⟩
theorem Ps.only {T : Nat → Prop} (h : Ps w A c l) (k : Only w w' T) (hT : ∀ bk off, A = some ⟨bk, off, none⟩ → ¬ T bk) : Ps w' A c l :=
  ⟨h.le, h.max, h.lt, fun i hi => by
    obtain ⟨bk, off, e, hlt, h0, h1, h2, h3⟩ := h.at_ i hi
    have hk := k.block bk hlt (hT bk off e)
    exact ⟨bk, off, e, Nat.lt_of_lt_of_le hlt k.size, (cell_blk (ad := ⟨bk, _, none⟩) hk).trans h0, (cell_blk (ad := ⟨bk, _, none⟩) hk).trans h1, (cell_blk (ad := ⟨bk, _, none⟩) hk).trans h2, (cell_blk (ad := ⟨bk, _, none⟩) hk).trans h3⟩⟩
end
/-- a peer -/
structure PeerD where
  link : Int
  key : List UInt8
  ps : List PfxI
def peerV (A : Option Addr) (a : Nat) (B : Option Addr) (b : Nat) (d : PeerD) : Value := .agg #[.int .i64 d.link, .slice A d.key.length a, .slice B d.ps.length b]

theorem arr3 {cs : Array Value} (h : cs.size = 3) : ∃ c0 c1 c2, cs = #[c0, c1, c2] := by
  obtain ⟨l⟩ := cs
  match l, h with
  | [c0, c1, c2], _ => exact ⟨c0, c1, c2, rfl⟩
end Go.Proofs.Ytnhfeoniiadjfaa.Peer
/- PutPeer, plain; its walk where the head is bad. -/
namespace Go.Proofs.Ytnhfeoniiadjfaa.Peer
open Go.RowKit Go.Proofs.Ytnhfeoniiadjfaa.K Go.Proofs.Ytnhfeoniiadjfaa.Help Go.Proofs.Ytnhfeoniiadjfaa.Pfx
set_option linter.unusedVariables false

def pvI (x : PfxI) : Bool := pvB x.1 x.2.1 x.2.2.1 x.2.2.2
def cmpI (x y : PfxI) : Int := cmpP x.1 x.2.1 x.2.2.1 x.2.2.2 y.1 y.2.1 y.2.2.1 y.2.2.2
def pfI (x : PfxI) : List UInt8 := pfBytes x.1 x.2.1 x.2.2.1 x.2.2.2
/-- may prefix number i be? -/
def okAt (l : List PfxI) (i : Nat) : Bool := pvI (l.getD i zP) && (decide (i = 0) || decide (cmpI (l.getD (i - 1) zP) (l.getD i zP) < 0))
def okTo (l : List PfxI) (n : Nat) : Prop := ∀ i, i < n → okAt l i = true
def headOk (d : PeerD) : Prop := 1 ≤ d.link ∧ d.link ≤ 4294967295 ∧ d.key.length = 32 ∧ d.ps.length ≤ 16
def peerOk (d : PeerD) : Prop := headOk d ∧ okTo d.ps d.ps.length
open Classical in
/-- a peer's row: key, value, code -/
noncomputable def putPeer (d : PeerD) : List UInt8 × List UInt8 × Int :=
  if peerOk d then ([0x50] ++ be 4 d.link.toNat, d.key ++ be 1 d.ps.length ++ d.ps.flatMap pfI, 0) else ([], [], 114)
theorem putPeer_bad {d : PeerD} (h : ¬ peerOk d) : putPeer d = ([], [], 114) := by unfold putPeer; exact if_neg h
theorem putPeer_ok {d : PeerD} (h : peerOk d) : putPeer d = ([0x50] ++ be 4 d.link.toNat, d.key ++ be 1 d.ps.length ++ d.ps.flatMap pfI, 0) := by unfold putPeer; exact if_pos h
theorem head_cases (d : PeerD) : (d.link < 1 ∧ ¬ headOk d) ∨ (1 ≤ d.link ∧ 4294967295 < d.link ∧ ¬ headOk d) ∨ (1 ≤ d.link ∧ d.link ≤ 4294967295 ∧ d.key.length ≠ 32 ∧ ¬ headOk d)
    ∨ (1 ≤ d.link ∧ d.link ≤ 4294967295 ∧ d.key.length = 32 ∧ 16 < d.ps.length ∧ ¬ headOk d) ∨ headOk d := by
  unfold headOk
  omega
section
variable {t : TypeId} {w w' w2 : World} {x y : Value} {cs : Array Value}
end
end Go.Proofs.Ytnhfeoniiadjfaa.Peer
/- The walk of PutPeer where the head is good. -/
namespace Go.Proofs.Ytnhfeoniiadjfaa.Peer
open Go.RowKit Go.Proofs.Ytnhfeoniiadjfaa.K Go.Proofs.Ytnhfeoniiadjfaa.Help Go.Proofs.Ytnhfeoniiadjfaa.Pfx
set_option linter.unusedVariables false

theorem take_flat {l : List PfxI} {k : Nat} (h : k < l.length) : (l.take (k + 1)).flatMap pfI = (l.take k).flatMap pfI ++ pfI (l.getD k zP) := by
  rw [List.take_add_one, List.flatMap_append]
  simp [h]
theorem pfI_len (x : PfxI) : (pfI x).length ≤ 18 := by
  unfold pfI pfBytes
  split
  · have := (paBytes_len (fam := x.1) (hi := x.2.1) (lo := x.2.2.1)).2
    simp
    omega
  · simp
theorem flat_len (l : List PfxI) : (l.flatMap pfI).length ≤ 18 * l.length := by
  induction l with
  | nil => simp
  | cons x r ih => have := pfI_len x; simp at *; omega
section
variable {w W W2 : World} {cs : Array Value} {X : Nat} {x : PfxI} {v : Value} {L : List UInt8} {B : Option Addr} {b : Nat} {l : List PfxI}
end
end Go.Proofs.Ytnhfeoniiadjfaa.Peer
/- The walk of the document's PutPeer, a good peer. -/
namespace Go.Proofs.Ytnhfeoniiadjfaa.Peer
open Go.RowKit Go.Proofs.Ytnhfeoniiadjfaa.K Go.Proofs.Ytnhfeoniiadjfaa.Help Go.Proofs.Ytnhfeoniiadjfaa.Pfx
set_option linter.unusedVariables false

theorem own_lt {w : World} {base : Nat} {v : Value} {l : List UInt8} (h : Own w base v l) : ∀ i, v.ownBlock = some i → i < w.heap.size := by
  intro i hi
  rcases h.1.2 with ⟨rfl, _⟩ | ⟨g, cap, cur, rfl, hb, hh, _⟩
  · simp [Value.ownBlock] at hi
  · have : g = i := by simpa [Value.ownBlock] using hi
    rw [← this]
    exact blk_lt hh
theorem blk_bs1 {w : World} {g : Nat} {y : UInt8} (h : Blk w g [y]) : Bs w (some ⟨g, 0, none⟩) 1 [y] := by
  obtain ⟨A5, c5, e5, h5⟩ := (h.own (base := 0) (Nat.zero_le _) (by simp)).bs
  injection e5 with e6 e7 e8
  rw [← e6, ← e8] at h5
  exact h5
end Go.Proofs.Ytnhfeoniiadjfaa.Peer
/- Prefixes of the call's own, and the append of one. -/
namespace Go.Proofs.Ytnhfeoniiadjfaa.Peer
open Go.RowKit Go.Proofs.Ytnhfeoniiadjfaa.K Go.Proofs.Ytnhfeoniiadjfaa.Help Go.Proofs.Ytnhfeoniiadjfaa.Pfx
set_option linter.unusedVariables false

def pcs (x : PfxI) : List Value := [.int .i64 x.1, .int .u64 (x.2.1 : Int), .int .u64 (x.2.2.1 : Int), .int .i64 x.2.2.2]
def pcells (l : List PfxI) : List Value := l.flatMap pcs
theorem pcells_len (l : List PfxI) : (pcells l).length = l.length * 4 := by
  induction l with
  | nil => rfl
  | cons x r ih => unfold pcells at *; rw [List.flatMap_cons, List.length_append, ih]; simp [pcs]; omega
theorem pcells_at (l : List PfxI) (i j : Nat) (hi : i < l.length) (hj : j < 4) : (pcells l)[i * 4 + j]? = (pcs (l.getD i zP))[j]? := by
  induction l generalizing i with
  | nil => simp at hi
  | cons x r ih =>
    have hx : (pcs x).length = 4 := rfl
    unfold pcells at *
    rw [List.flatMap_cons]
    match i with
    | 0 => rw [List.getElem?_append_left (by omega)]; simp
    | i + 1 =>
      rw [List.getElem?_append_right (by omega), hx, show (i + 1) * 4 + j - 4 = i * 4 + j by omega]
      have := ih i (by simpa using hi)
      rw [this]
      simp
section
variable {w w' : World} {base : Nat} {v : Value} {l : List PfxI}
end
theorem pcells_snoc (l : List PfxI) (x : PfxI) : pcells (l ++ [x]) = pcells l ++ pcs x := by unfold pcells; rw [List.flatMap_append]; simp
section
variable {ops : Array Oper} {rest : List Oper} {o : Oper} {a : Act} {Q : Exit → Act → World → Prop}
end
end Go.Proofs.Ytnhfeoniiadjfaa.Peer
/- The walk of SamePeer on the same data. -/
namespace Go.Proofs.Ytnhfeoniiadjfaa.Peer
open Go.RowKit Go.Proofs.Ytnhfeoniiadjfaa.K Go.Proofs.Ytnhfeoniiadjfaa.Help Go.Proofs.Ytnhfeoniiadjfaa.Pfx
set_option linter.unusedVariables false

theorem twoC_step {t1 t2 : TypeId} {w w' w2 : World} {x y : Array Value} (h : TwoC t1 t2 w w' x y) (hb : Below w'.heap.size w' w2) : TwoC t1 t2 w w2 x y :=
  ⟨(hb.block _ (blk_lt h.a)).trans h.a, (hb.block _ (blk_lt h.b)).trans h.b, below_step h.below hb⟩
end Go.Proofs.Ytnhfeoniiadjfaa.Peer
/- What a row says of a peer, plain; the peer's box while its prefixes are read. -/
namespace Go.Proofs.Ytnhfeoniiadjfaa.Peer
open Go.RowKit Go.Proofs.Ytnhfeoniiadjfaa.K Go.Proofs.Ytnhfeoniiadjfaa.Help Go.Proofs.Ytnhfeoniiadjfaa.Pfx
set_option linter.unusedVariables false

def toI (d : PfxD) : PfxI := (d.1, d.2.1, d.2.2.1, (d.2.2.2 : Int))
/-- n prefixes one behind the other, and what is left -/
def getN : Nat → List UInt8 → Option (List PfxI × List UInt8)
  | 0, l => some ([], l)
  | n + 1, l => match getN n l with
    | none => none
    | some p => if (pfxGet p.2).2.2 = 0 then some (p.1 ++ [toI (pfxGet p.2).1], p.2.drop (pfxGet p.2).2.1) else none
theorem getN_step {n : Nat} {l r : List UInt8} {ps : List PfxI} {d : PfxD} {m : Nat} (h : getN n l = some (ps, r)) (hg : pfxGet r = (d, m, 0)) : getN (n + 1) l = some (ps ++ [toI d], r.drop m) := by
  simp only [getN, h, hg, if_true]
theorem getN_stop {n : Nat} {l r : List UInt8} {ps : List PfxI} {d : PfxD} {m : Nat} {e : Int} (h : getN n l = some (ps, r)) (hg : pfxGet r = (d, m, e)) (he : e ≠ 0) : getN (n + 1) l = none := by
  simp only [getN, h, hg, if_neg he]
theorem getN_none {n m : Nat} {l : List UInt8} (h : getN n l = none) (hm : n ≤ m) : getN m l = none := by
  induction m with
  | zero => have : n = 0 := by omega
            subst this; exact h
  | succ m ih =>
    by_cases e : n = m + 1
    · rw [← e]; exact h
    · simp only [getN, ih (by omega)]
theorem pw_cases (x : Int) : pw x / 8 = 0 ∨ pw x / 8 = 4 ∨ pw x / 8 = 16 := by
  unfold pw
  split
  · exact .inr (.inl rfl)
  · split
    · exact .inr (.inr rfl)
    · exact .inl rfl
/-- what Get tells of a prefix is within bounds -/
theorem pfxGet_b (l : List UInt8) : (pfxGet l).1.2.1 < 18446744073709551616 ∧ (pfxGet l).1.2.2.1 < 18446744073709551616 ∧ ((pfxGet l).2.2 = 0 → 6 ≤ (pfxGet l).2.1 ∧ (pfxGet l).2.1 ≤ l.length) ∧ (pfxGet l).2.1 ≤ 18 := by
  unfold pfxGet
  have hc := pw_cases ((l.getD 0 0).toNat : Int)
  generalize pw ((l.getD 0 0).toNat : Int) / 8 = n at *
  split
  · exact ⟨by simp, by simp, fun h => by simp at h, by simp⟩
  · split
    · exact ⟨by simp, by simp, fun h => by simp at h, by simp⟩
    · rename_i h1 h2
      split
      · refine ⟨?_, Nat.mod_lt _ (by decide), fun _ => ⟨?_, ?_⟩, ?_⟩
        · have : val ((l.drop 2).take n) < 256 ^ 16 := val_pow (by rw [List.length_take]; omega)
          have e : (256 : Nat) ^ 16 = 18446744073709551616 * 18446744073709551616 := by decide
          rw [e] at this
          exact Nat.div_lt_of_lt_mul this
        · dsimp only; omega
        · dsimp only; omega
        · dsimp only; omega
      · exact ⟨by simp, by simp, fun h => by simp at h, by simp⟩
theorem getN_len {n : Nat} : ∀ {l r : List UInt8} {ps : List PfxI}, getN n l = some (ps, r) → ps.length = n := by
  induction n with
  | zero => intro l r ps h; simp only [getN, Option.some.injEq, Prod.mk.injEq] at h; rw [← h.1]; rfl
  | succ n ih =>
    intro l r ps h
    simp only [getN] at h
    split at h
    · cases h
    · rename_i p hp
      obtain ⟨qs, q⟩ := p
      split at h
      · simp only [Option.some.injEq, Prod.mk.injEq] at h
        rw [← h.1, List.length_append, ih hp]; rfl
      · cases h
theorem getN_lt {n : Nat} : ∀ {l r : List UInt8} {ps : List PfxI}, getN n l = some (ps, r) → ∀ x, x ∈ ps → x.2.1 < 18446744073709551616 ∧ x.2.2.1 < 18446744073709551616 := by
  induction n with
  | zero => intro l r ps h; simp only [getN, Option.some.injEq, Prod.mk.injEq] at h; rw [← h.1]; intro x hx; cases hx
  | succ n ih =>
    intro l r ps h
    simp only [getN] at h
    split at h
    · cases h
    · rename_i p hp
      obtain ⟨qs, q⟩ := p
      split at h
      · simp only [Option.some.injEq, Prod.mk.injEq] at h
        rw [← h.1]
        intro x hx
        rcases List.mem_append.1 hx with h1 | h1
        · exact ih hp x h1
        · simp at h1; rw [h1]; have := pfxGet_b q; exact ⟨this.1, this.2.1⟩
      · cases h
def zeroPeer : PeerD := ⟨0, [], []⟩
/-- the rest of a peer's value: so many prefixes -/
def peerOf (link : Nat) (key : List UInt8) (n : Nat) (rest : List UInt8) : PeerD :=
  match getN n rest with
  | none => zeroPeer
  | some p => ⟨link, key, p.1⟩
/-- what the readers tell -/
def peerRd (k v : List UInt8) : PeerD :=
  let t0 := takes k 0 1 0
  let t1 := takes k t0.2.2.1 4 t0.2.2.2
  let u0 := takes v 0 32 0
  let u1 := takes v u0.2.2.1 1 u0.2.2.2
  let u2 := takes v u1.2.2.1 (Help.Left v u1.2.2.1 u1.2.2.2) u1.2.2.2
  peerOf (val t1.1) u0.1 (val u1.1) u2.1
/-- s[n:] of a slice of bytes, whatever its capacity -/
theorem bs_cut (A : Option Addr) (c : Nat) (l : List UInt8) (n : Nat) (hn : n ≤ l.length) :
    ∃ A' : Option Addr, (∀ W : World, (Instr.slice 27 (.slice A l.length c) (some (.int .i64 (n : Int))) none none).run Try.prog W = .ok (.slice A' (l.length - n) (c - n)) W) ∧ ∀ w, Bs w A c l → Bs w A' (c - n) (l.drop n) := by
  refine ⟨if c = n then A else A.map (·.add n), fun W => ?_, fun w h => ?_⟩
  · obtain ⟨i0, hi, hz⟩ := Option.map_eq_some_iff.1 info_u8
    simp only [Prod.mk.injEq] at hz
    have hel : Try.prog.elem 27 = 5 := by simp [Program.elem, Try.underlying27]
    have hu : Try.prog.underlying 27 = some (.slice (Try.prog.elem 27)) := by rw [hel]; exact Try.underlying27
    rw [run_slice_l W 27 A l.length c hu .i64 (n : Int) (Int.natCast_nonneg _) (by omega), hel]
    simp [sizeOf, typeInfo, hi, hz.2.1, sliced, Result.andThen]
  · have hle := h.le
    refine ⟨by rw [List.length_drop]; omega, by rw [List.length_drop]; have := h.max; omega, fun i hi => ?_⟩
    rw [List.length_drop] at hi
    obtain ⟨ad, e, hlt, hc⟩ := h.at_ (n + i) (by omega)
    rw [if_neg (by omega)]
    subst e
    refine ⟨ad.add n, rfl, by rw [addr_add_block]; exact hlt, ?_⟩
    have e2 : (ad.add n).add i = ad.add (n + i) := by unfold Addr.add; by_cases hi : n = 0 <;> by_cases hj : i = 0 <;> simp [hi, hj, Nat.add_assoc]
    rw [e2, hc]
    congr 3
    simp
/-- a peer's cells -/
def peC (link : Int) (A : Option Addr) (n c : Nat) (pv : Value) : Array Value := #[.int .i64 link, .slice A n c, pv]
section
variable {W0 W w1 : World} {N : Nat} {link : Int} {A : Option Addr} {n c : Nat} {pv : Value} {ps : List PfxI}
end
/-- a peer is answered; what the readers at gk, gv are is left open -/
def PeerR (w : World) (gk gv rv : Nat) (d : PeerD) (e : Ending) (w' : World) : Prop := ∃ A a B b, e = .returned (peerV A a B b d) ∧ Bs w' A a d.key ∧ Ps w' B b d.ps ∧ Only w w' (fun i => i = gk ∨ i = gv) ∧ At A rv ∧ Nw w B
theorem peC_noU8 (link : Int) (A : Option Addr) (n c : Nat) (B : Option Addr) (m b : Nat) : ∀ (j : Nat) (x : Int), (peC link A n c (.slice B m b))[j]? ≠ some (.int .u8 x) :=
  noU8_3 _ _ _ (by intro b e; cases e) (by intro b e; cases e) (by intro b e; cases e)
section
variable {W : World} {R : Nat} {link : Int} {A : Option Addr} {n c : Nat} {B : Option Addr} {m b : Nat}
end
def fill3 (W : World) (R : Nat) (link : Int) (A : Option Addr) (n c : Nat) (B : Option Addr) (m b : Nat) : World :=
  ((W.setCell ⟨R, 0, none⟩ (.int .i64 link)).setCell ⟨R, 1, none⟩ (.slice A n c)).setCell ⟨R, 2, none⟩ (.slice B m b)
end Go.Proofs.Ytnhfeoniiadjfaa.Peer
/- The walk of read[Peer]. -/
namespace Go.Proofs.Ytnhfeoniiadjfaa.Peer
open Go.RowKit Go.Proofs.Ytnhfeoniiadjfaa.K Go.Proofs.Ytnhfeoniiadjfaa.Help Go.Proofs.Ytnhfeoniiadjfaa.Pfx
set_option linter.unusedVariables false

/-- what GetPeer answers: the peer and the error -/
noncomputable def peerGet (k v : List UInt8) : PeerD × Int := if (putPeer (peerRd k v)).2.2 = 0 ∧ (putPeer (peerRd k v)).1 = k ∧ (putPeer (peerRd k v)).2.1 = v then (peerRd k v, 0) else (zeroPeer, 114)
def GotP (w : World) (t : PeerD × Int) (e : Ending) (w' : World) : Prop := ∃ A a B b, e = .returned (.tuple #[peerV A a B b t.1, .int .i64 t.2]) ∧ Bs w' A a t.1.key ∧ Ps w' B b t.1.ps ∧ Below w.heap.size w w' ∧ Nw w A ∧ Nw w B
abbrev zpC : Array Value := peC 0 none 0 0 (.slice none 0 0)
section
variable {w w' w2 : World} {x y : Value}
end
theorem PBox.noU64 {link : Int} {A : Option Addr} {n c : Nat} {B : Option Addr} {m b : Nat} : ∀ (j : Nat) (x : Int), (peC link A n c (.slice B m b))[j + 1]? ≠ some (.int .u64 x) := by
  intro j x e
  unfold peC at e
  match j with
  | 0 => simp at e
  | 1 => simp at e
  | (j + 2) => simp at e
section
variable {w W w2 : World} {x y : Value} {X : Nat} {A : Option Addr} {a : Nat} {B : Option Addr} {b : Nat} {d : PeerD}
end
theorem peerRd_n (k v : List UInt8) : (peerRd k v).key.length ≤ 32 ∧ (peerRd k v).link < 4294967296 ∧ 0 ≤ (peerRd k v).link ∧ (peerRd k v).ps.length < 256 := by
  unfold peerRd peerOf
  dsimp only
  have h1 := takes_len v 0 32 0
  have hlt : val (takes k (takes k 0 1 0).2.2.1 4 (takes k 0 1 0).2.2.2).1 < 4294967296 := Nat.lt_of_lt_of_le (val_pow (k := 4) (takes_len k _ 4 _).1) (by decide)
  have hlt2 : val (takes v (takes v 0 32 0).2.2.1 1 (takes v 0 32 0).2.2.2).1 < 256 := val_pow (k := 1) (takes_len v _ 1 _).1
  split
  · exact ⟨by simp [zeroPeer], by simp [zeroPeer], by simp [zeroPeer], by simp [zeroPeer]⟩
  · rename_i p hp
    obtain ⟨ps, r⟩ := p
    exact ⟨h1.1, by dsimp only; omega, by dsimp only; omega, by rw [getN_len hp]; exact hlt2⟩

end Go.Proofs.Ytnhfeoniiadjfaa.Peer
/- The walks of GetPeer, Peer. -/
namespace Go.Proofs.Ytnhfeoniiadjfaa.Peer
open Go.RowKit Go.Proofs.Ytnhfeoniiadjfaa.K Go.Proofs.Ytnhfeoniiadjfaa.Help Go.Proofs.Ytnhfeoniiadjfaa.Pfx
set_option linter.unusedVariables false

section
variable {t : TypeId} {w w' w2 : World} {cs : Array Value}
end
/-- a peer in new memory -/
def PeerC (w : World) (d : PeerD) (e : Ending) (w' : World) : Prop := ∃ A a B b, e = .returned (peerV A a B b d) ∧ Bs w' A a d.key ∧ Ps w' B b d.ps ∧ Below w.heap.size w w' ∧ Nw w A ∧ Nw w B
end Go.Proofs.Ytnhfeoniiadjfaa.Peer
/- What a row of a peer's form says, plain; the cut behind the document's head of GetPeer. -/
namespace Go.Proofs.Ytnhfeoniiadjfaa.Peer
open Go.RowKit Go.Proofs.Ytnhfeoniiadjfaa.K Go.Proofs.Ytnhfeoniiadjfaa.Help Go.Proofs.Ytnhfeoniiadjfaa.Pfx
set_option linter.unusedVariables false

theorem putPeer_len {d : PeerD} (h : (putPeer d).2.2 = 0) : (putPeer d).1.length = 5 ∧ 33 ≤ (putPeer d).2.1.length := by
  by_cases hok : peerOk d
  · rw [putPeer_ok hok]
    refine ⟨by simp [be_len], ?_⟩
    have := hok.1.2.2.1
    simp [be_len]
    omega
  · rw [putPeer_bad hok] at h; cases h
theorem peerGet_bad {k v : List UInt8} (h : k.length ≠ 5 ∨ v.length < 33) : peerGet k v = (zeroPeer, 114) := by
  unfold peerGet
  rw [if_neg]
  rintro ⟨h0, h1, h2⟩
  have := putPeer_len h0
  rw [h1, h2] at this
  omega
theorem zeroPeer_bad : ¬ peerOk zeroPeer := by
  intro h
  have := h.1.1
  simp [zeroPeer] at this
theorem peerRd_len {k v : List UInt8} (hk : k.length = 5) (hv : 33 ≤ v.length) :
    peerRd k v = peerOf (val (cutN k 1 4)) (v.take 32) (v.getD 32 0).toNat (v.drop 33) := by
  unfold peerRd
  have e0 : takes k 0 1 0 = (cutN k 0 1, true, 1, 0) := takes_ok (by omega)
  have e1 : takes k 1 4 0 = (cutN k 1 4, true, 5, 0) := takes_ok (by omega)
  have f0 : takes v 0 32 0 = (cutN v 0 32, true, 32, 0) := takes_ok (by omega)
  have f1 : takes v 32 1 0 = (cutN v 32 1, true, 33, 0) := takes_ok (by omega)
  have hl : Help.Left v 33 0 = v.length - 33 := by unfold Help.Left; simp
  have f2 : takes v 33 (v.length - 33) 0 = (cutN v 33 (v.length - 33), true, 33 + (v.length - 33), 0) := takes_ok (by omega)
  simp only [e0, e1, f0, f1, hl, f2]
  have g0 : cutN v 0 32 = v.take 32 := by unfold cutN; rw [List.drop_zero]
  have g2 : cutN v 33 (v.length - 33) = v.drop 33 := by unfold cutN; exact List.take_of_length_le (by rw [List.length_drop]; omega)
  rw [g0, g2, val_one v 32 (by omega)]
end Go.Proofs.Ytnhfeoniiadjfaa.Peer
/- P15.3, plain: a peer's row is read back; what is read is put as the row. -/
namespace Go.Proofs.Ytnhfeoniiadjfaa.Peer
open Go.RowKit Go.Proofs.Ytnhfeoniiadjfaa.K Go.Proofs.Ytnhfeoniiadjfaa.Help Go.Proofs.Ytnhfeoniiadjfaa.Pfx
set_option linter.unusedVariables false

theorem pfxGet_put (x : PfxI) (hv : pvI x = true) (h1 : x.2.1 < 18446744073709551616) (h2 : x.2.2.1 < 18446744073709551616) (rest : List UInt8) :
    ∃ d, pfxGet (pfI x ++ rest) = (d, (pfI x).length, 0) ∧ toI d = x := by
  obtain ⟨fam, hi, lo, bits⟩ := x
  unfold pvI at hv
  dsimp only at hv h1 h2
  have hs := pvB_spec hv
  obtain ⟨ha, hb0, hb1, hf⟩ := hs
  have hp : pfI (fam, hi, lo, bits) = [UInt8.ofNat fam.toNat, UInt8.ofNat bits.toNat] ++ paBytes fam hi lo := by
    unfold pfI pfBytes; rw [if_pos hv]
  rw [hp]
  have hb2 : (UInt8.ofNat bits.toNat).toNat = bits.toNat := by simp; omega
  have hbb : ((bits.toNat : Nat) : Int) = bits := by omega
  rcases hf with rfl | rfl
  · have h4 : hi = 0 ∧ lo < 4294967296 := by
      rcases of_decide_eq_true ha with h | ⟨_, h, h'⟩
      · omega
      · exact ⟨h, h'⟩
    obtain ⟨rfl, hlo⟩ := h4
    have e : [UInt8.ofNat (4 : Int).toNat, UInt8.ofNat bits.toNat] ++ paBytes 4 0 lo ++ rest = UInt8.ofNat 4 :: UInt8.ofNat bits.toNat :: (be 4 lo ++ rest) := by simp [paBytes]
    have hl : ([UInt8.ofNat (4 : Int).toNat, UInt8.ofNat bits.toNat] ++ paBytes 4 0 lo).length = 6 := by simp [paBytes, be_len]
    rw [e, hl]
    have f0 : ((UInt8.ofNat 4 :: UInt8.ofNat bits.toNat :: (be 4 lo ++ rest)).getD 0 0).toNat = 4 := by simp
    have f1 : ((UInt8.ofNat 4 :: UInt8.ofNat bits.toNat :: (be 4 lo ++ rest)).getD 1 0).toNat = bits.toNat := by simpa using hb2
    have f2 : ((UInt8.ofNat 4 :: UInt8.ofNat bits.toNat :: (be 4 lo ++ rest)).drop 2).take 4 = be 4 lo := by
      simp only [List.drop_succ_cons, List.drop_zero]
      exact List.take_left' (be_len _ _)
    have f3 : (UInt8.ofNat 4 :: UInt8.ofNat bits.toNat :: (be 4 lo ++ rest)).length = 6 + rest.length := by simp [be_len]; omega
    have f4 : pw ((4 : Nat) : Int) / 8 = 4 := rfl
    unfold pfxGet
    rw [f0, f1, f3, f4, f2, val_be, Nat.mod_eq_of_lt (show lo < 256 ^ 4 by simpa using hlo)]
    rw [if_neg (by omega), if_neg (by omega), show lo / 18446744073709551616 = 0 by omega, show lo % 18446744073709551616 = lo by omega, hbb]
    have hv2 : pvB ((4 : Nat) : Int) 0 lo bits = true := hv
    rw [if_pos hv2]
    exact ⟨_, rfl, by simp [toI, hbb]⟩
  · have e : [UInt8.ofNat (6 : Int).toNat, UInt8.ofNat bits.toNat] ++ paBytes 6 hi lo ++ rest = UInt8.ofNat 6 :: UInt8.ofNat bits.toNat :: ((be 8 hi ++ be 8 lo) ++ rest) := by simp [paBytes]
    have hl : ([UInt8.ofNat (6 : Int).toNat, UInt8.ofNat bits.toNat] ++ paBytes 6 hi lo).length = 18 := by simp [paBytes, be_len]
    rw [e, hl]
    have f0 : ((UInt8.ofNat 6 :: UInt8.ofNat bits.toNat :: ((be 8 hi ++ be 8 lo) ++ rest)).getD 0 0).toNat = 6 := by simp
    have f1 : ((UInt8.ofNat 6 :: UInt8.ofNat bits.toNat :: ((be 8 hi ++ be 8 lo) ++ rest)).getD 1 0).toNat = bits.toNat := by simpa using hb2
    have f2 : ((UInt8.ofNat 6 :: UInt8.ofNat bits.toNat :: ((be 8 hi ++ be 8 lo) ++ rest)).drop 2).take 16 = be 8 hi ++ be 8 lo := by
      simp only [List.drop_succ_cons, List.drop_zero]
      exact List.take_left' (by simp [be_len])
    have f3 : (UInt8.ofNat 6 :: UInt8.ofNat bits.toNat :: ((be 8 hi ++ be 8 lo) ++ rest)).length = 18 + rest.length := by simp [be_len]; omega
    have f4 : pw ((6 : Nat) : Int) / 8 = 16 := rfl
    have f5 : val (be 8 hi ++ be 8 lo) = hi * 18446744073709551616 + lo := by
      rw [val_app2, val_be, val_be, be_len, show (256 : Nat) ^ 8 = 18446744073709551616 from rfl, Nat.mod_eq_of_lt h1, Nat.mod_eq_of_lt h2]
    unfold pfxGet
    rw [f0, f1, f3, f4, f2, f5]
    rw [if_neg (by omega), if_neg (by omega), show (hi * 18446744073709551616 + lo) / 18446744073709551616 = hi by omega, show (hi * 18446744073709551616 + lo) % 18446744073709551616 = lo by omega, hbb]
    have hv2 : pvB ((6 : Nat) : Int) hi lo bits = true := hv
    rw [if_pos hv2]
    exact ⟨_, rfl, by simp [toI, hbb]⟩
theorem getN_flat (ps : List PfxI) (rest : List UInt8) (h : ∀ x, x ∈ ps → pvI x = true ∧ x.2.1 < 18446744073709551616 ∧ x.2.2.1 < 18446744073709551616) :
    ∀ n, n ≤ ps.length → getN n (ps.flatMap pfI ++ rest) = some (ps.take n, (ps.drop n).flatMap pfI ++ rest) := by
  intro n
  induction n with
  | zero => intro _; simp [getN]
  | succ n ih =>
    intro hn
    have hx : ps.drop n = ps[n] :: ps.drop (n + 1) := List.drop_eq_getElem_cons (by omega)
    have hm := h ps[n] (List.getElem_mem (by omega))
    obtain ⟨d, hd, hi⟩ := pfxGet_put ps[n] hm.1 hm.2.1 hm.2.2 ((ps.drop (n + 1)).flatMap pfI ++ rest)
    have hg : pfxGet ((ps.drop n).flatMap pfI ++ rest) = (d, (pfI ps[n]).length, 0) := by
      rw [hx, List.flatMap_cons, List.append_assoc]; exact hd
    rw [getN_step (ih (by omega)) hg, hi, hx, List.flatMap_cons, List.append_assoc, List.drop_left, List.take_succ_eq_append_getElem (by omega)]
theorem okAt_pv {l : List PfxI} (h : okTo l l.length) : ∀ x, x ∈ l → pvI x = true := by
  intro x hx
  obtain ⟨i, hi, rfl⟩ := List.mem_iff_getElem.1 hx
  have := h i hi
  unfold okAt at this
  rw [List.getD_eq_getElem?_getD, List.getElem?_eq_getElem hi] at this
  simp only [Bool.and_eq_true] at this
  exact this.1
/-- P15.3 of peers -/
theorem peerGet_put {d : PeerD} (hb : ∀ x, x ∈ d.ps → x.2.1 < 18446744073709551616 ∧ x.2.2.1 < 18446744073709551616) (h : peerOk d) : peerGet (putPeer d).1 (putPeer d).2.1 = (d, 0) := by
  have hp := putPeer_ok h
  obtain ⟨⟨h1, h2, h3, h4⟩, hto⟩ := h
  have hr : peerRd (putPeer d).1 (putPeer d).2.1 = d := by
    rw [hp]
    dsimp only
    have hb1 : be 1 d.ps.length = [UInt8.ofNat d.ps.length] := by simp [be]
    rw [peerRd_len (by simp [be_len]) (by simp [be_len]; omega)]
    have c1 : cutN ([0x50] ++ be 4 d.link.toNat) 1 4 = be 4 d.link.toNat := by
      have := cut_mid [0x50] (be 4 d.link.toNat) [] (p := 1) (n := 4) rfl (be_len _ _)
      rwa [List.append_nil] at this
    have c2 : (d.key ++ be 1 d.ps.length ++ d.ps.flatMap pfI).take 32 = d.key := by
      rw [List.append_assoc]; exact List.take_left' h3
    have c3 : ((d.key ++ be 1 d.ps.length ++ d.ps.flatMap pfI).getD 32 0).toNat = d.ps.length := by
      rw [hb1, List.append_assoc, List.getD_eq_getElem?_getD, List.getElem?_append_right (by omega), h3]
      simp
      omega
    have c4 : (d.key ++ be 1 d.ps.length ++ d.ps.flatMap pfI).drop 33 = d.ps.flatMap pfI := List.drop_left' (by simp [be_len]; omega)
    rw [c1, c2, c3, c4, val_be, Nat.mod_eq_of_lt (by simp; omega)]
    unfold peerOf
    have hg := getN_flat d.ps [] (fun x hx => ⟨okAt_pv hto x hx, hb x hx⟩) d.ps.length (Nat.le_refl _)
    rw [List.append_nil] at hg
    rw [hg]
    simp only [List.take_length]
    obtain ⟨link, key, ps⟩ := d
    dsimp only at *
    rw [show ((link.toNat : Nat) : Int) = link by omega]
  unfold peerGet
  rw [hr]
  exact if_pos ⟨by rw [hp], rfl, rfl⟩
theorem peerGet_back {k v : List UInt8} {x : PeerD} (h : peerGet k v = (x, 0)) : putPeer x = (k, v, 0) := by
  unfold peerGet at h
  split at h
  · rename_i hc
    simp only [Prod.mk.injEq, and_true] at h
    rw [← h]
    exact Prod.ext hc.2.1 (Prod.ext hc.2.2 hc.1)
  · simp at h
theorem laneGet_back {k v : List UInt8} {x : LaneD} (h : laneGet k v = (x, 0)) : putLane x = (k, v, 0) := by
  unfold laneGet at h
  split at h
  · rename_i hc
    simp only [Prod.mk.injEq, and_true] at h
    rw [← h]
    exact Prod.ext hc.2.1 (Prod.ext hc.2.2 hc.1)
  · simp at h
end Go.Proofs.Ytnhfeoniiadjfaa.Peer
/- Lists of structs in memory, read and of the call's own: rows, peers, lanes. -/
namespace Go.Proofs.Ytnhfeoniiadjfaa.Lst
open Go.RowKit Go.Proofs.Ytnhfeoniiadjfaa.K Go.Proofs.Ytnhfeoniiadjfaa.Help Go.Proofs.Ytnhfeoniiadjfaa.Pfx Go.Proofs.Ytnhfeoniiadjfaa.Peer
set_option linter.unusedVariables false

/-- a slice of bytes that lies in no block of N -/
def BsN (w : World) (N : Nat → Prop) (A : Option Addr) (c : Nat) (l : List UInt8) : Prop := Bs w A c l ∧ (l ≠ [] → ∀ ad, A = some ad → ¬ N ad.block)
section
variable {w w' : World} {N N' : Nat → Prop} {A : Option Addr} {c : Nat} {l : List UInt8}
theorem Bs.blk (h : Bs w A c l) (hl : l ≠ []) (ad : Addr) (e : A = some ad) : ad.block < w.heap.size := by
  obtain ⟨ad', e', hlt, _⟩ := h.at_ 0 (List.length_pos_iff.2 hl)
  rw [e] at e'
  cases e'
  exact hlt
theorem BsN.below (h : BsN w N A c l) (hb : Below w.heap.size w w') : BsN w' N A c l := ⟨h.1.below hb, h.2⟩
theorem BsN.only {T : Nat → Prop} (h : BsN w N A c l) (k : Only w w' T) (hT : ∀ i, i < w.heap.size → T i → N i) : BsN w' N A c l := by
  refine ⟨⟨h.1.le, h.1.max, fun i hi => ?_⟩, h.2⟩
  obtain ⟨ad, e, hlt, hc⟩ := h.1.at_ i hi
  have hl : l ≠ [] := by intro e; rw [e] at hi; simp at hi
  have hb : (ad.add i).block = ad.block := addr_add_block ad i
  exact ⟨ad, e, Nat.lt_of_lt_of_le hlt k.size, (cell_blk (k.block _ (by rw [hb]; exact hlt) (fun ht => h.2 hl ad e (hT _ hlt (by rw [← hb]; exact ht))))).trans hc⟩
theorem BsN.reno (h : BsN w N A c l) (hN : ∀ i, N' i → N i ∨ w.heap.size ≤ i) : BsN w N' A c l :=
  ⟨h.1, fun hl ad e hn => by
    rcases hN _ hn with h1 | h1
    · exact h.2 hl ad e h1
    · have := Bs.blk h.1 hl ad e; omega⟩
theorem Bs.bsn (h : Bs w A c l) : BsN w (fun _ => False) A c l := ⟨h, fun _ _ _ h => h⟩
theorem Bs.fresh {w0 : World} (h : Bs w A c l) (hn : Nw w0 A) (hN : ∀ i, N i → i < w0.heap.size) : BsN w N A c l := ⟨h, fun _ ad e hx => by have := hn ad e; have := hN _ hx; omega⟩
theorem BsN.drewN (h : BsN w N A c l) (n : Nat) : BsN (w.drewN n) N A c l := ⟨h.1.drewN n, h.2⟩
end
def PsN (w : World) (N : Nat → Prop) (A : Option Addr) (c : Nat) (l : List PfxI) : Prop := Ps w A c l ∧ (l ≠ [] → ∀ ad, A = some ad → ¬ N ad.block)
section
variable {w w' : World} {N N' : Nat → Prop} {A : Option Addr} {c : Nat} {l : List PfxI}
theorem Ps.blk (h : Ps w A c l) (hl : l ≠ []) (ad : Addr) (e : A = some ad) : ad.block < w.heap.size := by
  obtain ⟨bk, off, e', hlt, _⟩ := h.at_ 0 (List.length_pos_iff.2 hl)
  rw [e] at e'
  cases e'
  exact hlt
theorem PsN.below (h : PsN w N A c l) (hb : Below w.heap.size w w') : PsN w' N A c l := ⟨h.1.below hb, h.2⟩
theorem PsN.only {T : Nat → Prop} (h : PsN w N A c l) (k : Only w w' T) (hT : ∀ i, i < w.heap.size → T i → N i) : PsN w' N A c l := by
  by_cases hl : l = []
  · subst hl; exact ⟨⟨h.1.le, h.1.max, h.1.lt, fun i hi => by simp at hi⟩, h.2⟩
  · refine ⟨h.1.only k (fun bk off e ht => ?_), h.2⟩
    exact h.2 hl _ e (hT _ (Ps.blk h.1 hl _ e) ht)
theorem PsN.reno (h : PsN w N A c l) (hN : ∀ i, N' i → N i ∨ w.heap.size ≤ i) : PsN w N' A c l :=
  ⟨h.1, fun hl ad e hn => by
    rcases hN _ hn with h1 | h1
    · exact h.2 hl ad e h1
    · have := Ps.blk h.1 hl ad e; omega⟩
theorem Ps.psn (h : Ps w A c l) : PsN w (fun _ => False) A c l := ⟨h, fun _ _ _ h => h⟩
theorem Ps.fresh {w0 : World} (h : Ps w A c l) (hn : Nw w0 A) (hN : ∀ i, N i → i < w0.heap.size) : PsN w N A c l := ⟨h, fun _ ad e hx => by have := hn ad e; have := hN _ hx; omega⟩
theorem PsN.drewN (h : PsN w N A c l) (n : Nat) : PsN (w.drewN n) N A c l := ⟨h.1.drewN n, h.2⟩
end
/-- how an element of a list reads: its cells, and what they lead to, which lies in no block of N -/
structure Elem (α : Type) where
  sz : Nat
  R : World → (Nat → Prop) → List Value → α → Prop
  len : ∀ {w N raw x}, R w N raw x → raw.length = sz
  one : ∀ {w N raw x}, R w N raw x → ∀ u, u ∈ raw → u.oneCell' = true
  below : ∀ {w w' N raw x}, R w N raw x → Below w.heap.size w w' → R w' N raw x
  only : ∀ {w w' N raw x} {T : Nat → Prop}, R w N raw x → Only w w' T → (∀ i, i < w.heap.size → T i → N i) → R w' N raw x
  reno : ∀ {w N N' raw x}, R w N raw x → (∀ i, N' i → N i ∨ w.heap.size ≤ i) → R w N' raw x
/-- a list as it is read -/
structure Lst {α : Type} (E : Elem α) (w : World) (N : Nat → Prop) (A : Option Addr) (c : Nat) (l : List α) : Prop where
  le : l.length ≤ c
  max : c ≤ 9223372036854775807
  at_ : ∀ (i : Nat) (x : α), l[i]? = some x → ∃ bk off raw, A = some ⟨bk, off, none⟩ ∧ bk < w.heap.size ∧ ¬ N bk ∧ (∀ j, j < E.sz → w.cell? ⟨bk, off + i * E.sz + j, none⟩ = raw[j]?) ∧ E.R w N raw x
section
variable {α : Type} {E : Elem α} {w w' : World} {N N' : Nat → Prop} {A : Option Addr} {c : Nat} {l : List α}
theorem Lst.nil (w : World) (N : Nat → Prop) : Lst E w N none 0 [] := ⟨by simp, by simp, fun i x h => by simp at h⟩
theorem Lst.below (h : Lst E w N A c l) (hb : Below w.heap.size w w') : Lst E w' N A c l :=
  ⟨h.le, h.max, fun i x hx => by
    obtain ⟨bk, off, raw, e, hlt, hn, hc, hr⟩ := h.at_ i x hx
    exact ⟨bk, off, raw, e, Nat.lt_of_lt_of_le hlt hb.size, hn, fun j hj => (hb.cell (p := ⟨bk, _, none⟩) hlt).trans (hc j hj), E.below hr hb⟩⟩
theorem Lst.only {T : Nat → Prop} (h : Lst E w N A c l) (k : Only w w' T) (hT : ∀ i, i < w.heap.size → T i → N i) : Lst E w' N A c l :=
  ⟨h.le, h.max, fun i x hx => by
    obtain ⟨bk, off, raw, e, hlt, hn, hc, hr⟩ := h.at_ i x hx
    exact ⟨bk, off, raw, e, Nat.lt_of_lt_of_le hlt k.size, hn, fun j hj => (cell_blk (ad := ⟨bk, _, none⟩) (k.block bk hlt (fun ht => hn (hT _ hlt ht)))).trans (hc j hj), E.only hr k hT⟩⟩
theorem Lst.reno (h : Lst E w N A c l) (hN : ∀ i, N' i → N i ∨ w.heap.size ≤ i) : Lst E w N' A c l :=
  ⟨h.le, h.max, fun i x hx => by
    obtain ⟨bk, off, raw, e, hlt, hn, hc, hr⟩ := h.at_ i x hx
    exact ⟨bk, off, raw, e, hlt, fun hx => (hN _ hx).elim hn (fun h2 => by omega), hc, E.reno hr hN⟩⟩
theorem Lst.drewN (h : Lst E w N A c l) (n : Nat) : Lst E (w.drewN n) N A c l := h.below (below_drewN (Below.refl _ _) n)
theorem Lst.free (h : Lst E w N A c l) : Lst E w (fun _ => False) A c l := h.reno (fun _ h => h.elim)
end
/-- a list of the call's own, from block B on; its elements lie neither in its row nor in a block of N -/
def OwnL {α : Type} (E : Elem α) (t : TypeId) (w : World) (N : Nat → Prop) (B : Nat) (v : Value) (l : List α) : Prop :=
  ∃ raws : List (List Value), raws.length = l.length ∧ w.ownsRow B t E.sz v l.length raws.flatten ∧ l.length ≤ 1000000000000 ∧ ∀ (i : Nat) (x : α) (raw : List Value), l[i]? = some x → raws[i]? = some raw → E.R w (fun k => N k ∨ v.ownBlock = some k) raw x
theorem flat_at {sz : Nat} {raws : List (List Value)} (h : ∀ r, r ∈ raws → r.length = sz) : ∀ (i j : Nat) (r : List Value), raws[i]? = some r → j < sz → raws.flatten[i * sz + j]? = r[j]? := by
  induction raws with
  | nil => intro i j r hi; simp at hi
  | cons x xs ih =>
    intro i j r hi hj
    have hx : x.length = sz := h x (by simp)
    rw [List.flatten_cons]
    match i with
    | 0 =>
      simp only [List.getElem?_cons_zero, Option.some.injEq] at hi
      subst hi
      rw [List.getElem?_append_left (by omega)]
      simp
    | i + 1 =>
      rw [List.getElem?_append_right (by rw [hx, Nat.succ_mul]; omega), hx, show (i + 1) * sz + j - sz = i * sz + j by rw [Nat.succ_mul]; omega]
      exact ih (fun r hr => h r (by simp [hr])) i j r (by simpa using hi) hj
section
variable {α : Type} {E : Elem α} {t : TypeId} {w w' : World} {N N' : Nat → Prop} {B : Nat} {v : Value} {l : List α}
theorem OwnL.nil (E : Elem α) (t : TypeId) (w : World) (N : Nat → Prop) (B : Nat) : OwnL E t w N B (.slice none 0 0) [] := ⟨[], rfl, ⟨by simp, .inl ⟨rfl, rfl⟩⟩, by simp, fun i x raw h => by simp at h⟩
theorem OwnL.base_le (h : OwnL E t w N B v l) {i : Nat} (hi : v.ownBlock = some i) : B ≤ i := by
  obtain ⟨raws, _, h, _⟩ := h
  rcases h.2 with ⟨rfl, _⟩ | ⟨g, cap, cur, rfl, hb, _⟩
  · simp [Value.ownBlock] at hi
  · have : g = i := by simpa [Value.ownBlock] using hi
    omega
theorem OwnL.lt (h : OwnL E t w N B v l) {i : Nat} (hi : v.ownBlock = some i) : i < w.heap.size := by
  obtain ⟨raws, _, h, _⟩ := h
  rcases h.2 with ⟨rfl, _⟩ | ⟨g, cap, cur, rfl, hb, hh, _⟩
  · simp [Value.ownBlock] at hi
  · have : g = i := by simpa [Value.ownBlock] using hi
    subst this
    exact blk_lt hh
theorem OwnL.blk (h : OwnL E t w N B v l) {i : Nat} (hi : v.ownBlock = some i) : ∃ cs, w.heap[i]? = some (.cells cs t (0, 0)) := by
  obtain ⟨raws, _, h, _⟩ := h
  rcases h.2 with ⟨rfl, _⟩ | ⟨g, cap, cur, rfl, hb, hh, _⟩
  · simp [Value.ownBlock] at hi
  · have : g = i := by simpa [Value.ownBlock] using hi
    subst this
    exact ⟨_, hh⟩
theorem row_keep {B n sz : Nat} {xs : List Value} {T : Nat → Prop} (h : w.ownsRow B t sz v n xs) (k : Only w w' T) (hT : ∀ i, v.ownBlock = some i → ¬ T i) : w'.ownsRow B t sz v n xs := by
  refine ⟨h.1, ?_⟩
  rcases h.2 with h2 | ⟨g, cap, cur, hv, hg, hh, r⟩
  · exact .inl h2
  · exact .inr ⟨g, cap, cur, hv, hg, k.blk hh (hT g (by rw [hv]; rfl)), r⟩
theorem OwnL.only {T : Nat → Prop} (h : OwnL E t w N B v l) (k : Only w w' T) (h1 : ∀ i, v.ownBlock = some i → ¬ T i) (h2 : ∀ i, i < w.heap.size → T i → N i) : OwnL E t w' N B v l := by
  obtain ⟨raws, hl, ho, hm, hr⟩ := h
  exact ⟨raws, hl, row_keep ho k h1, hm, fun i x raw hx hw => E.only (hr i x raw hx hw) k (fun i hi ht => .inl (h2 i hi ht))⟩
theorem OwnL.below (h : OwnL E t w N B v l) (hb : Below w.heap.size w w') : OwnL E t w' N B v l := by
  have k := Only.of_below hb (fun _ => False)
  exact h.only k (fun _ _ h => h) (fun _ _ h => h.elim)
theorem OwnL.drewN (h : OwnL E t w N B v l) (n : Nat) : OwnL E t (w.drewN n) N B v l := h.below (below_drewN (Below.refl _ _) n)
theorem OwnL.reno (h : OwnL E t w N B v l) (hN : ∀ i, N' i → N i ∨ w.heap.size ≤ i) : OwnL E t w N' B v l := by
  obtain ⟨raws, hl, ho, hm, hr⟩ := h
  exact ⟨raws, hl, ho, hm, fun i x raw hx hw => E.reno (hr i x raw hx hw) (fun i hi => hi.elim (fun h => (hN i h).imp .inl id) (fun h => .inl (.inr h)))⟩
theorem OwnL.slice (h : OwnL E t w N B v l) : ∃ A c, v = .slice A l.length c := by
  obtain ⟨raws, hl, ho, _⟩ := h
  rcases ho.2 with ⟨rfl, h0⟩ | ⟨g, cap, cur, rfl, _⟩
  · exact ⟨none, 0, by rw [h0]⟩
  · exact ⟨_, cap, rfl⟩
theorem OwnL.nw {w0 : World} {A : Option Addr} {n c : Nat} (h : OwnL E t w N B (.slice A n c) l) (hb : w0.heap.size ≤ B) : Nw w0 A := fun ad e => by
  subst e
  obtain ⟨raws, _, h, _⟩ := h
  rcases h.2 with ⟨h1, _⟩ | ⟨g, cap, cur, h1, h2, _⟩
  · cases h1
  · injection h1 with h1; injection h1 with h1; subst h1; exact Nat.le_trans hb h2
/-- an own list is a list -/
theorem OwnL.lst (h : OwnL E t w N B v l) (hN : ∀ i, v.ownBlock = some i → ¬ N i) : ∃ A c, v = .slice A l.length c ∧ Lst E w N A c l := by
  obtain ⟨raws, hl, ho, hm, hr⟩ := h
  have hsz : ∀ r, r ∈ raws → r.length = E.sz := fun r hx => by
    obtain ⟨i, hi, rfl⟩ := List.mem_iff_getElem.1 hx
    exact E.len (hr i (l[i]'(by omega)) raws[i] (List.getElem?_eq_getElem _) (List.getElem?_eq_getElem hi))
  have hc := fun (g : Nat) (hg : v.ownBlock = some g) => ho.cells hg
  rcases ho.2 with ⟨rfl, h0⟩ | ⟨g, cap, cur, rfl, hb, hh, hn, hmx, hs, ht⟩
  · have : l = [] := List.eq_nil_of_length_eq_zero h0
    subst this
    exact ⟨none, 0, rfl, Lst.nil _ _⟩
  · refine ⟨_, cap, rfl, hn, by simpa [maxLen] using hmx, fun i x hx => ?_⟩
    have hi : i < raws.length := by rw [hl]; exact (List.getElem?_eq_some_iff.1 hx).1
    refine ⟨g, 0, raws[i], rfl, blk_lt hh, hN g rfl, fun j hj => ?_, E.reno (hr i x raws[i] hx (List.getElem?_eq_getElem hi)) (fun k hk => .inl (.inl hk))⟩
    have hf := flat_at hsz i j raws[i] (List.getElem?_eq_getElem hi) hj
    have hrl : raws[i].length = E.sz := hsz _ (List.getElem_mem hi)
    have e : (⟨g, 0, none⟩ : Addr).add (i * E.sz + j) = ⟨g, i * E.sz + j, none⟩ := addr_add_plain _ _
    have hcc := hc g rfl (i * E.sz + j) (raws[i][j]'(by omega)) (by rw [hf]; exact List.getElem?_eq_getElem _)
    rw [e] at hcc
    rw [Nat.zero_add, hcc, List.getElem?_eq_getElem (by omega)]
end
section
variable {α : Type} {E : Elem α} {P : Program} {ops : Array Oper} {rest : List Oper} {o : Oper} {a : Act} {Q : Exit → Act → World → Prop}
/-- append(v, x): x laid at block g -/
theorem push {B : Nat} {W : World} {N : Nat → Prop} (t ts : TypeId) (z : Value) (bytes : Nat) (hgd : o.guard = none) (s xo : Operand)
    (ho : o.op = .call { callee := .builtin .append, args := #[s, xo], argTypes := #[ts, ts] })
    (ht : P.underlying ts = some (.slice t)) (hinfo : (P.info? t).map (fun i => (i.zero, i.size, i.bytes)) = some (some z, E.sz, bytes)) (hz : z.cells.size = E.sz) (hs0 : 0 < E.sz) (hb1 : 0 < bytes) (hb2 : bytes ≤ 128)
    (v : Value) (l : List α) (x : α) (raw : List Value) (g mc : Nat) (hs : a.eval s = v) (hx : a.eval xo = .slice (some ⟨g, 0, none⟩) 1 mc)
    (HO : OwnL E t W N B v l) (HX : W.heap[g]? = some (.cells raw.toArray t (0, 0))) (hr : E.R W (fun k => N k ∨ v.ownBlock = some k) raw x) (hBW : B ≤ W.heap.size) (hl : l.length ≤ 100000000000)
    (h : ∀ A' c' w1, OwnL E t w1 N B (.slice A' (l.length + 1) c') (l ++ [x]) → Only W w1 (fun k => v.ownBlock = some k) → (∀ k, (Value.slice A' (l.length + 1) c').ownBlock = some k → v.ownBlock = some k ∨ W.heap.size ≤ k) → wpList P ops Q rest (a.put o.dst (.slice A' (l.length + 1) c')) w1)
    (hNn : ∀ k, N k → k < W.heap.size) :
    wpList P ops Q (o :: rest) a W := by
  obtain ⟨raws, hrl, hown, hm, hR⟩ := HO
  obtain ⟨i0, hi, hzz⟩ := Option.map_eq_some_iff.1 hinfo
  simp only [Prod.mk.injEq] at hzz
  obtain ⟨hz0, hz1, hz2⟩ := hzz
  have hraw := E.len hr
  have hbb : (l.length + 1) * bytes ≤ 140737488355328 := Nat.le_trans (Nat.mul_le_mul (show l.length + 1 ≤ 1000000000000 by omega) hb2) (by decide)
  refine wpList_append_own_at W hgd s xo ts ho B t i0 z E.sz bytes ht hi hz0 hz1 hz2 hz hs0 v l.length raws.flatten hs hown ⟨g, 0, none⟩ 1 mc raw hx (by rw [hraw]; omega)
    ?_ (E.one hr) (by simp only [maxLen]; omega) hbb hBW ?_
  · intro j u hu
    rw [addr_add_plain]
    exact (blk_cell HX j).trans (by simpa using hu)
  · intro v1 w1 hown1 hg _ hat
    have k : Only W w1 (fun k => v.ownBlock = some k) := (Only.refl W (fun k => v.ownBlock = some k)).grown hg (fun k hk => .inl hk)
    have hat2 : ∀ k, v1.ownBlock = some k → v.ownBlock = some k ∨ W.heap.size ≤ k := fun k hk => by
      rcases hat with hat | hat
      · exact .inl (by rw [← hat]; exact hk)
      · rw [hat] at hk; exact .inr (by injection hk with hk; omega)
    have hO : OwnL E t w1 N B v1 (l ++ [x]) := by
      refine ⟨raws ++ [raw], by simp [hrl], ?_, by simp; omega, fun i y r hy hw => ?_⟩
      · rw [List.flatten_append, List.flatten_cons, List.flatten_nil, List.append_nil]; simpa using hown1
      · have hT : E.R W (fun k => N k ∨ v.ownBlock = some k) r y := by
          by_cases hii : i < l.length
          · exact hR i y r (by rw [List.getElem?_append_left hii] at hy; exact hy) (by rw [List.getElem?_append_left (by omega)] at hw; exact hw)
          · have e1 : i = l.length := by
              have := (List.getElem?_eq_some_iff.1 hy).1
              simp at this
              omega
            subst e1
            rw [List.getElem?_append_right (by omega), Nat.sub_self] at hy
            rw [List.getElem?_append_right (by omega), hrl, Nat.sub_self] at hw
            simp only [List.getElem?_cons_zero, Option.some.injEq] at hy hw
            subst hy hw
            exact hr
        have hT2 : E.R W (fun k => (N k ∨ v.ownBlock = some k) ∨ v1.ownBlock = some k) r y := E.reno hT (fun k hk => hk.elim .inl (fun h => (hat2 k h).imp .inr id))
        exact E.reno (E.only hT2 k (fun i _ hi => .inl (.inr hi))) (fun k hk => .inl (hk.elim (fun h => .inl (.inl h)) .inr))
    obtain ⟨A', c', e⟩ := OwnL.slice hO
    rw [List.length_append] at e
    subst e
    exact h A' c' w1 hO k hat2
end
end Go.Proofs.Ytnhfeoniiadjfaa.Lst
/- Rows, peers and lanes as elements of lists; such lists as arguments. -/
namespace Go.Proofs.Ytnhfeoniiadjfaa.Lst
open Go.ChangeShapes Go.WideShapes Go.ChangeAt Go.RowKit Go.Proofs.Ytnhfeoniiadjfaa.K Go.Proofs.Ytnhfeoniiadjfaa.Help Go.Proofs.Ytnhfeoniiadjfaa.Pfx Go.Proofs.Ytnhfeoniiadjfaa.Peer
set_option linter.unusedVariables false

abbrev RowD := List UInt8 × List UInt8
def RowR (w : World) (N : Nat → Prop) (raw : List Value) (x : RowD) : Prop := ∃ A a B b, raw = [.slice A x.1.length a, .slice B x.2.length b] ∧ BsN w N A a x.1 ∧ BsN w N B b x.2
def RowE : Elem RowD where
  sz := 2
  R := RowR
  len := fun ⟨A, a, B, b, h, _⟩ => by rw [h]; rfl
  one := fun ⟨A, a, B, b, h, _⟩ u hu => by
    rw [h] at hu
    simp only [List.mem_cons, List.not_mem_nil, or_false] at hu
    rcases hu with rfl | rfl <;> rfl
  below := fun ⟨A, a, B, b, h, h1, h2⟩ hb => ⟨A, a, B, b, h, h1.below hb, h2.below hb⟩
  only := fun ⟨A, a, B, b, h, h1, h2⟩ k hT => ⟨A, a, B, b, h, h1.only k hT, h2.only k hT⟩
  reno := fun ⟨A, a, B, b, h, h1, h2⟩ hN => ⟨A, a, B, b, h, h1.reno hN, h2.reno hN⟩
def PeerRr (w : World) (N : Nat → Prop) (raw : List Value) (x : PeerD) : Prop := ∃ A a B b, raw = [.int .i64 x.link, .slice A x.key.length a, .slice B x.ps.length b] ∧ BsN w N A a x.key ∧ PsN w N B b x.ps
def PeerE : Elem PeerD where
  sz := 3
  R := PeerRr
  len := fun ⟨A, a, B, b, h, _⟩ => by rw [h]; rfl
  one := fun ⟨A, a, B, b, h, _⟩ u hu => by
    rw [h] at hu
    simp only [List.mem_cons, List.not_mem_nil, or_false] at hu
    rcases hu with rfl | rfl | rfl <;> rfl
  below := fun ⟨A, a, B, b, h, h1, h2⟩ hb => ⟨A, a, B, b, h, h1.below hb, h2.below hb⟩
  only := fun ⟨A, a, B, b, h, h1, h2⟩ k hT => ⟨A, a, B, b, h, h1.only k hT, h2.only k hT⟩
  reno := fun ⟨A, a, B, b, h, h1, h2⟩ hN => ⟨A, a, B, b, h, h1.reno hN, h2.reno hN⟩
def LaneRr (w : World) (N : Nat → Prop) (raw : List Value) (d : LaneD) : Prop := ∃ A a, raw = [.slice A d.key.length a, .int .i64 d.side, .int .i64 d.cur, .int .i64 d.next, .int .u64 (d.sc : Int), .int .u64 (d.ceil : Int), .int .i64 d.sec, .int .i64 d.nano] ∧ BsN w N A a d.key ∧ LaneB d
def LaneE : Elem LaneD where
  sz := 8
  R := LaneRr
  len := fun ⟨A, a, h, _⟩ => by rw [h]; rfl
  one := fun ⟨A, a, h, _⟩ u hu => by
    rw [h] at hu
    simp only [List.mem_cons, List.not_mem_nil, or_false] at hu
    rcases hu with rfl | rfl | rfl | rfl | rfl | rfl | rfl | rfl <;> rfl
  below := fun ⟨A, a, h, h1, h2⟩ hb => ⟨A, a, h, h1.below hb, h2⟩
  only := fun ⟨A, a, h, h1, h2⟩ k hT => ⟨A, a, h, h1.only k hT, h2⟩
  reno := fun ⟨A, a, h, h1, h2⟩ hN => ⟨A, a, h, h1.reno hN, h2⟩
section
variable {w : World} {N : Nat → Prop} {A : Option Addr} {c : Nat}
/-- row i of a list -/
theorem Lst.row {l : List RowD} (h : Lst RowE w N A c l) (i : Nat) (x : RowD) (hx : l[i]? = some x) :
    ∃ bk off A1 a1 B1 b1, A = some ⟨bk, off, none⟩ ∧ bk < w.heap.size ∧ w.cell? ⟨bk, off + i * 2, none⟩ = some (.slice A1 x.1.length a1) ∧ w.cell? ⟨bk, off + i * 2 + 1, none⟩ = some (.slice B1 x.2.length b1) ∧ BsN w N A1 a1 x.1 ∧ BsN w N B1 b1 x.2 := by
  obtain ⟨bk, off, raw, e, hlt, _, hc, A1, a1, B1, b1, hr, h1, h2⟩ := h.at_ i x hx
  subst hr
  exact ⟨bk, off, A1, a1, B1, b1, e, hlt, hc 0 (by decide), hc 1 (by decide), h1, h2⟩
theorem Lst.peer {l : List PeerD} (h : Lst PeerE w N A c l) (i : Nat) (x : PeerD) (hx : l[i]? = some x) :
    ∃ bk off A1 a1 B1 b1, A = some ⟨bk, off, none⟩ ∧ bk < w.heap.size ∧ w.cell? ⟨bk, off + i * 3, none⟩ = some (.int .i64 x.link) ∧ w.cell? ⟨bk, off + i * 3 + 1, none⟩ = some (.slice A1 x.key.length a1) ∧ w.cell? ⟨bk, off + i * 3 + 2, none⟩ = some (.slice B1 x.ps.length b1)
      ∧ BsN w N A1 a1 x.key ∧ PsN w N B1 b1 x.ps := by
  obtain ⟨bk, off, raw, e, hlt, _, hc, A1, a1, B1, b1, hr, h1, h2⟩ := h.at_ i x hx
  subst hr
  exact ⟨bk, off, A1, a1, B1, b1, e, hlt, hc 0 (by decide), hc 1 (by decide), hc 2 (by decide), h1, h2⟩
theorem Lst.lane {l : List LaneD} (h : Lst LaneE w N A c l) (i : Nat) (x : LaneD) (hx : l[i]? = some x) :
    ∃ bk off A1 a1, A = some ⟨bk, off, none⟩ ∧ bk < w.heap.size ∧ w.cell? ⟨bk, off + i * 8, none⟩ = some (.slice A1 x.key.length a1) ∧ w.cell? ⟨bk, off + i * 8 + 1, none⟩ = some (.int .i64 x.side) ∧ w.cell? ⟨bk, off + i * 8 + 2, none⟩ = some (.int .i64 x.cur)
      ∧ w.cell? ⟨bk, off + i * 8 + 3, none⟩ = some (.int .i64 x.next) ∧ w.cell? ⟨bk, off + i * 8 + 4, none⟩ = some (.int .u64 (x.sc : Int)) ∧ w.cell? ⟨bk, off + i * 8 + 5, none⟩ = some (.int .u64 (x.ceil : Int))
      ∧ w.cell? ⟨bk, off + i * 8 + 6, none⟩ = some (.int .i64 x.sec) ∧ w.cell? ⟨bk, off + i * 8 + 7, none⟩ = some (.int .i64 x.nano) ∧ BsN w N A1 a1 x.key ∧ LaneB x := by
  obtain ⟨bk, off, raw, e, hlt, _, hc, A1, a1, hr, h1, h2⟩ := h.at_ i x hx
  subst hr
  exact ⟨bk, off, A1, a1, e, hlt, hc 0 (by decide), hc 1 (by decide), hc 2 (by decide), hc 3 (by decide), hc 4 (by decide), hc 5 (by decide), hc 6 (by decide), hc 7 (by decide), h1, h2⟩
end
theorem info_row : (Try.prog.info? 54).map (fun i => (i.zero, i.size, i.bytes)) = some (some (.agg #[.slice none 0 0, .slice none 0 0]), 2, 48) := by kernel_rfl
/-! lists that come in -/
theorem mem_weightsAll {H : Type} {P : Program} {e : TypeId} {d : DataW H} {n : Nat} : ∀ {ds : List (DataW H)}, d ∈ ds → n ∈ d.weights P e → n ∈ DataW.weightsAll P e ds
  | [], h, _ => by simp at h
  | x :: r, h, hn => by
    simp only [DataW.weightsAll, List.mem_append]
    rcases List.mem_cons.1 h with rfl | h
    · exact .inl hn
    · exact .inr (mem_weightsAll h hn)
theorem trod_list {H : Type} {enc : TypeId × Value → H} {W : World} {fuel : Nat} {cs : List Value} {y : DataW H × List MemPlace} {α : Type} (E : Elem α) {ts e : TypeId} (hts : Try.prog.underlying ts = some (.slice e)) (hsz : Try.prog.cellsOf e = E.sz) (hs0 : 0 < E.sz)
    (hel : ∀ (n : Nat) (cs : List Value) (z : DataW H × List MemPlace), DataW.trod enc Try.prog W 0 (fun _ => true) true n e cs = some z → Small z.1 e → ∃ x, E.R W (fun _ => False) cs x)
    (h : DataW.trod enc Try.prog W 0 (fun _ => true) true fuel ts cs = some y) (hz : Small y.1 ts) :
    ∃ A c l, cs = [.slice A l.length c] ∧ Lst E W (fun _ => False) A c l := by
  rcases Go.Deep.open_slice hts h with ⟨hcs, hx⟩ | ⟨a, len, cap, m, n, D, Pl, hcs, _, hl, hm, hmm, hx, hcell⟩
  · exact ⟨none, 0, [], hcs, Lst.nil _ _⟩
  · simp only [if_true] at hmm
    rw [hsz, hmm] at hcell
    unfold maxLen at hm
    have hone : ∀ i, i < len → ∃ raw x, E.R W (fun _ => False) raw x ∧ ∀ j, j < E.sz → W.cell? ((a.add (i * E.sz)).add j) = raw[j]? := fun i hi => by
      obtain ⟨cs', hc, ht⟩ := hcell i (by omega)
      obtain ⟨_, hlc, hat⟩ := World.cells?_some hc
      have hsm : Small (D i) e := fun k hk => hz k (by
        rw [hx]
        simp only [DataW.weights, hts]
        exact List.mem_cons_of_mem _ (List.mem_append.2 (.inl (mem_weightsAll (List.mem_map.2 ⟨i, List.mem_range.2 hi, rfl⟩) hk))))
      obtain ⟨x, hx⟩ := hel n cs' _ ht hsm
      exact ⟨cs', x, hx, fun j hj => by rw [hat j (by omega)]⟩
    obtain ⟨f, hf⟩ : ∃ f : Nat → List Value × Option α, ∀ i, i < len → ∃ x, (f i).2 = some x ∧ E.R W (fun _ => False) (f i).1 x ∧ ∀ j, j < E.sz → W.cell? ((a.add (i * E.sz)).add j) = (f i).1[j]? :=
      ⟨fun i => if h : i < len then ((hone i h).choose, some (hone i h).choose_spec.choose) else ([], none), fun i hi => by
        simp only [hi, dif_pos]
        exact ⟨_, rfl, (hone i hi).choose_spec.choose_spec⟩⟩
    have hlen : ((List.range len).filterMap (fun i => (f i).2)).length = len := by
      rw [List.length_filterMap_eq_countP, List.countP_eq_length.2, List.length_range]
      intro i hi
      obtain ⟨x, hx, _⟩ := hf i (List.mem_range.1 hi)
      simp [hx]
    have hget : ∀ i, i < len → ((List.range len).filterMap (fun i => (f i).2))[i]? = (f i).2 := by
      have key : ∀ n, n ≤ len → ∀ i, i < n → ((List.range n).filterMap (fun i => (f i).2))[i]? = (f i).2 := by
        intro n
        induction n with
        | zero => intro _ i hi; omega
        | succ n ih =>
          intro hn i hi
          obtain ⟨x, hx, _⟩ := hf n (by omega)
          have hl : ((List.range n).filterMap (fun i => (f i).2)).length = n := by
            rw [List.length_filterMap_eq_countP, List.countP_eq_length.2, List.length_range]
            intro i hi
            obtain ⟨x, hx, _⟩ := hf i (by have := List.mem_range.1 hi; omega)
            simp [hx]
          rw [List.range_succ, List.filterMap_append]
          rcases Nat.lt_or_ge i n with h | h
          · rw [List.getElem?_append_left (by omega)]; exact ih (by omega) i h
          · have : i = n := by omega
            subst this
            rw [List.getElem?_append_right (by omega), hl, Nat.sub_self]
            simp [hx]
      exact key len (Nat.le_refl _)
    refine ⟨some a, cap, (List.range len).filterMap (fun i => (f i).2), by rw [hlen]; exact hcs, ⟨by rw [hlen]; exact hl, by omega, fun i x hx => ?_⟩⟩
    have hi : i < len := by have := (List.getElem?_eq_some_iff.1 hx).1; rwa [hlen] at this
    rw [hget i hi] at hx
    obtain ⟨x', hx', hr, hc⟩ := hf i hi
    rw [hx] at hx'
    injection hx' with hx'
    subst hx'
    obtain ⟨bk, off, spot⟩ := a
    have hrl := E.len hr
    have hs : spot = none := by
      obtain ⟨x0, _, hr0, hc0⟩ := hf 0 (by omega)
      have hrl0 := E.len hr0
      have h0 := hc0 0 hs0
      rw [List.getElem?_eq_getElem (by omega), Nat.zero_mul] at h0
      have : ((⟨bk, off, spot⟩ : Addr).add 0).add 0 = ⟨bk, off, spot⟩ := by unfold Addr.add; simp
      rw [this] at h0
      exact World.cell?_spot h0
    subst hs
    have eb : ∀ o j, (⟨bk, o, none⟩ : Addr).add j = ⟨bk, o + j, none⟩ := fun o j => by unfold Addr.add; split <;> simp_all
    refine ⟨bk, off, (f i).1, rfl, ?_, fun h => h, fun j hj => ?_, hr⟩
    · have h0 := hc 0 hs0
      rw [List.getElem?_eq_getElem (by omega), eb, eb] at h0
      exact World.block_lt_of_cell? W _ h0
    · have h0 := hc j hj
      rwa [eb, eb] at h0
set_option maxRecDepth 100000 in
theorem trod_rows {H : Type} {enc : TypeId × Value → H} {W : World} {fuel : Nat} {cs : List Value} {y : DataW H × List MemPlace} (h : DataW.trod enc Try.prog W 0 (fun _ => true) true fuel 49 cs = some y) (hz : Small y.1 49) :
    ∃ A c l, cs = [.slice A l.length c] ∧ Lst RowE W (fun _ => False) A c l := by
  refine trod_list RowE Try.underlying49 cellsOf_row (by decide) (fun n cs z hn hsm => ?_) h hz
  obtain ⟨xs, n', _, hx, hl, hxs, hfl⟩ := DataW.trod_struct Try.underlying54 hn
  rw [cellsOf_row] at hl
  match cs, hl with
  | [c0, c1], _ =>
    have f0 : DataW.trod enc Try.prog W 0 (fun _ => true) true n' 27 (([c0, c1].drop 0).take (Try.prog.cellsOf 27)) = xs[0]? := hfl 0 _ rfl
    have f1 : DataW.trod enc Try.prog W 0 (fun _ => true) true n' 27 (([c0, c1].drop 1).take (Try.prog.cellsOf 27)) = xs[1]? := hfl 1 _ rfl
    rw [cellsOf_bytes] at f0 f1
    have hxl : xs.length = 2 := hxs
    match xs, hxl with
    | [y0, y1], _ =>
      have hd : z.1 = .agg [y0.1, y1.1] := by rw [hx]; rfl
      have w0 : Small y0.1 27 := fun n hn => hsm n (by rw [hd]; simp only [DataW.weights, Try.underlying54]; simp [DataW.weightsEach]; exact .inl hn)
      have w1 : Small y1.1 27 := fun n hn => hsm n (by rw [hd]; simp only [DataW.weights, Try.underlying54]; simp [DataW.weightsEach]; exact .inr hn)
      obtain ⟨A, a, k, e0, s0⟩ := trod_bytes f0 w0
      obtain ⟨B, b, x, e1, s1⟩ := trod_bytes f1 w1
      simp at e0 e1
      subst e0 e1
      exact ⟨(k, x), A, a, B, b, rfl, Bs.bsn s0, Bs.bsn s1⟩
set_option maxRecDepth 100000 in
theorem arg_rows {H : Type} {enc : TypeId × Value → H} {W : World} {b0 : Nat} {v : Value} {d : DataW H} {ps : List MemPlace}
    (hval : Value.okWide Try.prog W .any b0 49 v) (h : DataW.Trod enc Try.prog W 0 (fun _ => true) true 49 v d ps) (hz : Small d 49) :
    ∃ A c l, v = .slice A l.length c ∧ Lst RowE W (fun _ => False) A c l := by
  obtain ⟨a0, len, cap, rfl⟩ := okWide_slice Try.underlying49 hval
  obtain ⟨fuel, hf⟩ := h
  obtain ⟨A, c, l, e, hl⟩ := trod_rows hf hz
  simp [Value.cells] at e
  obtain ⟨rfl, rfl, rfl⟩ := e
  exact ⟨_, _, l, rfl, hl⟩
end Go.Proofs.Ytnhfeoniiadjfaa.Lst
