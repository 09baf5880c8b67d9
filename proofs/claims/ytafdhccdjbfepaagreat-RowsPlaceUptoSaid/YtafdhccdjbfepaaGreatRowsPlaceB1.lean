/- Contracts of the functions that RowsPlace reaches: part 1 of 7. -/
import Derived.Test.YtafdhccdjbfepaaGreatProg
import Derived.WalkKit
import Derived.ProofKit
import Derived.OpenShut
import Derived.Below
import Derived.Outline
import Derived.Deep.QuietTactic
import Derived.BigQuiet
import Derived.Lib.Hide
import Derived.Lib.SliceRun
import Derived.Laws.BitsAllLaws
import Derived.Laws.MakeOwn
import Derived.Deep.OwnRows
import Derived.Maps.AppendAt
import Derived.Deep.LoopGhost
import Derived.OwnWalk
import Derived.Deep.AppendLies
import Derived.Laws.OwnMore
import Derived.IntWalk
import Derived.Laws.IdiomStrings
import Derived.Laws.BytesArg
import Derived.Deep.RegionHeld3
import Derived.Deep.DeepCutAuto
/- What a call leaves as it was: small words on worlds, for all proofs of this seat. -/
namespace Go.Proofs.YtafdhccdjbfepaaGreat.K
open Go.RowKit

/-- Only the blocks of S, and new ones, may be other than they were. -/
structure Only (w w' : World) (S : Nat → Prop) : Prop where
  os : w'.os = w.os
  tape : w'.tape = w.tape
  output : w'.output = w.output
  size : w.heap.size ≤ w'.heap.size
  block : ∀ k, k < w.heap.size → ¬ S k → w'.heap[k]? = w.heap[k]?

section
variable {w w1 w2 w3 : World} {S S1 S2 : Nat → Prop}
theorem Only.refl (w : World) (S : Nat → Prop) : Only w w S := ⟨rfl, rfl, rfl, Nat.le_refl _, fun _ _ _ => rfl⟩
theorem Only.drewN (n : Nat) (h : Only w w1 S) : Only w (w1.drewN n) S := ⟨h.os, h.tape, h.output, h.size, h.block⟩
theorem Only.drew (h : Only w w1 S) : Only w w1.drew S := ⟨h.os, h.tape, h.output, h.size, h.block⟩
theorem Only.mono (h : Only w w1 S) (hs : ∀ k, k < w.heap.size → S k → S1 k) : Only w w1 S1 := ⟨h.os, h.tape, h.output, h.size, fun k hk hn => h.block k hk (fun h2 => hn (hs k hk h2))⟩
/-- two steps: what the second writes is the first's to write, or new since w -/
theorem Only.then_ (h : Only w w1 S) (k : Only w1 w2 S1) (hs : ∀ i, S1 i → S i ∨ w.heap.size ≤ i) : Only w w2 S :=
  ⟨k.os.trans h.os, k.tape.trans h.tape, k.output.trans h.output, Nat.le_trans h.size k.size, fun i hi hn => (k.block i (Nat.lt_of_lt_of_le hi h.size) (fun h2 => (hs i h2).elim hn (fun h3 => by omega))).trans (h.block i hi hn)⟩
theorem Only.alloc (h : Only w w1 S) (o : Obj) : Only w (w1.alloc o) S :=
  h.then_ (S1 := fun _ => False) ⟨rfl, rfl, rfl, by simp, fun k hk _ => Below.heap_alloc _ _ _ hk⟩ (fun _ h => h.elim)
theorem Only.setCell (h : Only w w1 S) {p : Addr} (hp : S p.block ∨ w.heap.size ≤ p.block) (u : Value) : Only w (w1.setCell p u) S :=
  h.then_ (S1 := fun k => k = p.block) ⟨rfl, rfl, rfl, by simp [World.setCell], fun i _ hn => Below.heap_setCell w1 p u i hn⟩ (fun k hk => by rw [hk]; exact hp)
theorem Only.grown {row : Option Nat} (h : Only w w1 S) (hg : w1.grownBy w2 row) (hr : ∀ k, row = some k → S k ∨ w.heap.size ≤ k) : Only w w2 S :=
  h.then_ (S1 := fun k => row = some k) ⟨hg.os, hg.tape, hg.output, hg.size, fun i hi hn => hg.block i hi (fun he => hn he.symm)⟩ hr
theorem Only.of_below (h : Below w.heap.size w w1) (S : Nat → Prop) : Only w w1 S := ⟨h.os, h.tape, h.output, h.size, fun i hi _ => h.block i hi⟩
theorem Only.below (h : Only w w1 S) {B : Nat} (hS : ∀ k, S k → B ≤ k) (hB : B ≤ w.heap.size) : Below B w w1 := ⟨h.os, h.tape, h.output, h.size, fun k hk => h.block k (by omega) (fun h2 => by have := hS k h2; omega)⟩
theorem Below.then_only {B : Nat} (h : Below B w w1) (k : Only w1 w2 S) (hB : B ≤ w.heap.size) (hS : ∀ k, S k → B ≤ k) : Below B w w2 :=
  h.trans (k.below hS (Nat.le_trans hB h.size))
theorem Only.of_drewN {n : Nat} (h : Only (w.drewN n) w1 S) : Only w w1 S := ⟨h.os, h.tape, h.output, h.size, h.block⟩
theorem Only.blk (h : Only w w1 S) {g : Nat} {o : Obj} (hb : w.heap[g]? = some o) (hn : ¬ S g) : w1.heap[g]? = some o :=
  (h.block g (Array.getElem?_eq_some_iff.1 hb).1 hn).trans hb
end

section
variable {w : World} {g : Nat} {o : Obj} {cs : Array Value} {t : TypeId} {fr : Nat × Nat}
theorem blk_lt (hb : w.heap[g]? = some o) : g < w.heap.size := (Array.getElem?_eq_some_iff.1 hb).1
theorem blk_cell (hb : w.heap[g]? = some (.cells cs t fr)) (j : Nat) : w.cell? ⟨g, j, none⟩ = cs[j]? := by simp [World.cell?, hb]
theorem blk_free (hb : w.heap[g]? = some (.cells cs t (0, 0))) (j : Nat) : w.frozen? ⟨g, j, none⟩ = false := by simp [World.frozen?, hb]
theorem blk_set (hb : w.heap[g]? = some (.cells cs t fr)) (j : Nat) (u : Value) : (w.setCell ⟨g, j, none⟩ u).heap[g]? = some (.cells (cs.setIfInBounds j u) t fr) := by
  simp only [World.setCell, Array.getElem?_modify, if_true, hb, Option.map_some]
  simp
theorem blk_far (hb : w.heap[g]? = some o) {p : Addr} (hn : g ≠ p.block) (u : Value) : (w.setCell p u).heap[g]? = some o := (Below.heap_setCell w p u g hn).trans hb
theorem blk_alloc (hb : w.heap[g]? = some o) (q : Obj) : (w.alloc q).heap[g]? = some o := (Below.heap_alloc w q g (blk_lt hb)).trans hb
theorem blk_new (w : World) (q : Obj) : (w.alloc q).heap[w.heap.size]? = some q := heap_alloc_new w q
theorem blk_drewN (n : Nat) (hb : w.heap[g]? = some o) : (w.drewN n).heap[g]? = some o := hb
theorem blk_ne {g2 : Nat} {cs2 : Array Value} {t2 : TypeId} {fr2 : Nat × Nat} (hb : w.heap[g]? = some (.cells cs t fr)) (hb2 : w.heap[g2]? = some (.cells cs2 t2 fr2)) (h : t ≠ t2) : g ≠ g2 := by
  rintro rfl
  rw [hb] at hb2
  injection hb2 with hb2
  injection hb2 with _ h2
  exact h h2
end

/-- a run of cells written at once -/
theorem setCells_blk {rb : Nat} {e : TypeId} : ∀ (vs : List Value) (o : Nat) (u : World) (cur : Array Value), u.heap[rb]? = some (.cells cur e (0, 0)) → o + vs.length ≤ cur.size →
    (∃ cur', (u.setCells rb o vs).heap[rb]? = some (.cells cur' e (0, 0)) ∧ cur'.size = cur.size ∧ ∀ i, cur'[i]? = if o ≤ i ∧ i < o + vs.length then vs[i - o]? else cur[i]?) ∧ Only u (u.setCells rb o vs) (fun k => k = rb) := by
  intro vs
  induction vs with
  | nil => intro o u cur hu _; exact ⟨⟨cur, hu, rfl, fun i => by rw [if_neg (by simp only [List.length_nil]; omega)]⟩, Only.refl _ _⟩
  | cons v r ih =>
    intro o u cur hu hl
    simp only [List.length_cons] at hl
    obtain ⟨⟨c2, h1, h2, h3⟩, h4⟩ := ih (o + 1) _ _ (blk_set hu o v) (by simp only [Array.size_setIfInBounds]; omega)
    refine ⟨⟨c2, h1, by rw [h2, Array.size_setIfInBounds], fun i => ?_⟩, ((Only.refl u (fun k => k = rb)).setCell (p := ⟨rb, o, none⟩) (.inl rfl) v).then_ h4 (fun i hi => .inl hi)⟩
    rw [h3]
    by_cases hi : i = o
    · subst hi
      rw [if_neg (by omega), if_pos (by simp only [List.length_cons]; omega), Array.getElem?_setIfInBounds]
      simp
      try omega
    · by_cases h5 : o + 1 ≤ i ∧ i < o + 1 + r.length
      · rw [if_pos h5, if_pos (by simp only [List.length_cons]; omega), show i - o = (i - (o + 1)) + 1 by omega, List.getElem?_cons_succ]
      · rw [if_neg h5, if_neg (by simp only [List.length_cons]; omega), Array.getElem?_setIfInBounds, if_neg (by omega)]
/-- A pure answer: only orders were drawn. -/
def Quiet (r : Value) (w : World) (e : Ending) (w' : World) : Prop := ∃ m, e = .returned r ∧ w' = w.drewN m
theorem ret_bool {a b : Bool} (h : a = b) : Ending.returned (.bool a) = .returned (.bool b) := by rw [h]
theorem drewN0 (w : World) : w = w.drewN 0 := rfl
theorem calls_quiet {P : Program} {f : Nat} {args : Array Value} {w : World} {r : Value} (h : Calls P f args w (Quiet r w)) : Calls P f args w fun e w' => ∃ m, e = .returned r ∧ w' = w.drewN m := h

/-- the whole numbers of a list as cells -/
def u64s (l : List Nat) : Array Value := (l.map fun (x : Nat) => Value.int .u64 (x : Int)).toArray
theorem u64s_get (l : List Nat) (i : Nat) (h : i < l.length) : (u64s l)[i]? = some (.int .u64 (l.getD i 0 : Nat)) := by
  simp [u64s, h]
theorem u64s_set (l : List Nat) (i x : Nat) : (u64s l).setIfInBounds i (.int .u64 (x : Int)) = u64s (l.set i x) := by
  simp [u64s, List.map_set]
theorem u64s_size (l : List Nat) : (u64s l).size = l.length := by simp [u64s]
def B64 : Nat := 18446744073709551616
def band (a b : Nat) : Nat := a &&& b
def bor (a b : Nat) : Nat := a ||| b
def bclr (a b : Nat) : Nat := a &&& (18446744073709551615 - b)
theorem band_eq {a b : Nat} (ha : a < B64) (hb : b < B64) : bits .and .u64 (a : Int) (b : Int) = (band a b : Nat) := by
  unfold B64 at *; exact u64_and_nat a b ha hb
theorem bor_eq {a b : Nat} (ha : a < B64) (hb : b < B64) : bits .or .u64 (a : Int) (b : Int) = (bor a b : Nat) := by
  unfold B64 at *; exact u64_or_nat a b ha hb
theorem bclr_eq {a b : Nat} (ha : a < B64) (hb : b < B64) : bits .andNot .u64 (a : Int) (b : Int) = (bclr a b : Nat) := by
  unfold B64 at *; exact u64_andNot_nat a b ha hb
theorem beq_nat0 (n : Nat) : ((n : Int) == 0) = (n == 0) := by
  cases n with
  | zero => rfl
  | succ n => simp; omega
theorem bor_lt {a b : Nat} (ha : a < B64) (hb : b < B64) : bor a b < B64 := by
  unfold B64 bor at *; exact Nat.or_lt_two_pow (n := 64) ha hb
theorem bclr_lt {a b : Nat} (ha : a < B64) : bclr a b < B64 := by
  unfold B64 bclr at *; exact Nat.lt_of_le_of_lt Nat.and_le_left ha

/-! slices of the call's own that grow -/
section
variable {w w1 : World} {e : TypeId} {v : Value} {n : Nat} {xs : List Value}
theorem own_form (h : w.ownsRow 0 e 1 v n xs) : ∃ A cap, v = .slice A n cap ∧ ∀ k, k < n → ∃ tb, A = some ⟨tb, 0, none⟩ ∧ w.cell? ⟨tb, k, none⟩ = some (xs.getD k default) := by
  rcases Nat.eq_zero_or_pos n with h0 | h0
  · subst h0
    rcases h.2 with ⟨rfl, _⟩ | ⟨g, cap, cur, rfl, _⟩
    · exact ⟨none, 0, rfl, fun k hk => by omega⟩
    · exact ⟨_, cap, rfl, fun k hk => by omega⟩
  · obtain ⟨g, cap, rfl, _, _⟩ := h.form h0
    refine ⟨_, cap, rfl, fun k hk => ⟨g, rfl, ?_⟩⟩
    have hl : xs.length = n := by have := h.1; simpa using this
    have hc := h.cells (g := g) rfl k (xs.getD k default) (by rw [List.getElem?_eq_getElem (by omega), List.getD_eq_getElem?_getD, List.getElem?_eq_getElem (by omega)]; rfl)
    have e0 : (⟨g, 0, none⟩ : Addr).add k = ⟨g, k, none⟩ := by unfold Addr.add; split <;> simp_all
    rwa [e0] at hc
theorem own_len (h : w.ownsRow 0 e 1 v n xs) : n ≤ 9223372036854775807 := by
  rcases h.2 with ⟨_, h1⟩ | ⟨g', cap', cur, he, _, _, h1, h2, _⟩
  · omega
  · simp only [maxLen] at h2; omega
theorem own_blk (h : w.ownsRow 0 e 1 v n xs) {k : Nat} (hk : v.ownBlock = some k) : ∃ cs, w.heap[k]? = some (.cells cs e (0, 0)) := by
  rcases h.2 with ⟨rfl, _⟩ | ⟨g, cap, cur, rfl, _, hh, _⟩
  · simp [Value.ownBlock] at hk
  · have : g = k := by simpa [Value.ownBlock] using hk
    subst this
    exact ⟨_, hh⟩
theorem own_keep {S : Nat → Prop} (h : w.ownsRow 0 e 1 v n xs) (k : Only w w1 S) (hn : ∀ i, v.ownBlock = some i → ¬ S i) : w1.ownsRow 0 e 1 v n xs := by
  refine ⟨h.1, ?_⟩
  rcases h.2 with h2 | ⟨g, cap, cur, hv, hg, hh, r⟩
  · exact Or.inl h2
  · exact Or.inr ⟨g, cap, cur, hv, hg, k.blk hh (hn g (by rw [hv]; rfl)), r⟩
theorem own_drewN (h : w.ownsRow 0 e 1 v n xs) (m : Nat) : (w.drewN m).ownsRow 0 e 1 v n xs := ⟨h.1, h.2⟩
end

section
variable {P : Program} {ops : Array Oper} {rest : List Oper} {o : Oper} {a : Act} {Q : Exit → Act → World → Prop}
/-- one item appended to a slice of the call's own -/
theorem ap1 {W : World} (hgd : o.guard = none) (s x : Operand) (t e : TypeId) (z : Value) (bytes : Nat)
    (ho : o.op = .call { callee := .builtin .append, args := #[s, x], argTypes := #[t, t] })
    (ht : P.underlying t = some (.slice e)) (hinfo : (P.info? e).map (fun i => (i.zero, i.size, i.bytes)) = some (some z, 1, bytes)) (hz : z.cells.size = 1) (hb0 : 0 < bytes)
    (v : Value) (xs : List Value) (y : Value) (hs : a.eval s = v) (hx : a.eval x = .slice (some ⟨W.heap.size, 0, none⟩) 1 1) (h1 : y.oneCell' = true)
    (HO : W.ownsRow 0 e 1 v xs.length xs) (hl : (xs.length + 1) * bytes ≤ 140737488355328)
    (h : ∀ v1 w1, w1.ownsRow 0 e 1 v1 (xs.length + 1) (xs ++ [y]) → Only W w1 (fun k => v.ownBlock = some k) → (v1.ownBlock = v.ownBlock ∨ ∃ b, v1.ownBlock = some b ∧ W.heap.size ≤ b) → wpList P ops Q rest (a.put o.dst v1) w1) :
    wpList P ops Q (o :: rest) a (W.alloc (.cells #[y] e)) := by
  obtain ⟨i0, hi, hzz⟩ := Option.map_eq_some_iff.1 hinfo
  simp only [Prod.mk.injEq] at hzz
  obtain ⟨hz0, hz1, hz2⟩ := hzz
  have hlen : xs.length + 1 ≤ 140737488355328 := Nat.le_trans (Nat.le_mul_of_pos_right _ hb0) hl
  refine wpList_append_own_at (W.alloc (.cells #[y] e)) hgd s x t ho 0 e i0 z 1 bytes ht hi hz0 hz1 hz2 hz (by omega) v xs.length xs hs (HO.alloc _) ⟨W.heap.size, 0, none⟩ 1 1 [y] hx rfl
    (World.news_of_block (cs := #[y]) (t := e) (fr := (0, 0)) (heap_alloc_new W _)) (by simpa using h1) (by simp only [maxLen]; omega) hl (by simp) ?_
  intro v1 w1 hown hg _ hat
  refine h v1 w1 hown (((Only.refl W _).alloc _).grown hg (fun k hk => .inl hk)) ?_
  rcases hat with hat | hat
  · exact .inl hat
  · exact .inr ⟨_, hat, by simp⟩
end
end Go.Proofs.YtafdhccdjbfepaaGreat.K
/- Lists of bytes in memory: small words for all proofs of this seat. -/
namespace Go.Proofs.YtafdhccdjbfepaaGreat.K
open Go.RowKit

def u8 (b : UInt8) : Value := .int .u8 (b.toNat : Int)
def u8s (l : List UInt8) : List Value := l.map u8
theorem u8s_len (l : List UInt8) : (u8s l).length = l.length := by simp [u8s]
theorem u8s_app (l m : List UInt8) : u8s (l ++ m) = u8s l ++ u8s m := by simp [u8s]
theorem u8s_snoc (l : List UInt8) (b : UInt8) : u8s (l ++ [b]) = u8s l ++ [.int .u8 (b.toNat : Int)] := by simp [u8s, u8]
theorem u8s_at (l : List UInt8) (i : Nat) : (u8s l)[i]? = l[i]?.map u8 := by unfold u8s; rw [List.getElem?_map]
theorem u8s_arr (l : List UInt8) (i : Nat) : (u8s l).toArray[i]? = l[i]?.map u8 := by rw [List.getElem?_toArray, u8s_at]
theorem u8s_get (l : List UInt8) (j : Nat) (h : j < l.length) : (u8s l).getD j default = .int .u8 ((l.getD j 0).toNat : Int) := by simp [u8s, u8, h]

/-- a slice of bytes that reads as l; its length is l's -/
structure Bs (w : World) (A : Option Addr) (c : Nat) (l : List UInt8) : Prop where
  le : l.length ≤ c
  max : l.length ≤ 140737488355328
  at_ : ∀ i, i < l.length → ∃ ad, A = some ad ∧ ad.block < w.heap.size ∧ w.cell? (ad.add i) = some (.int .u8 ((l.getD i 0).toNat : Int))
theorem addr_add_block (a : Addr) (n : Nat) : (a.add n).block = a.block := by unfold Addr.add; split <;> rfl
theorem addr_add_plain (g j : Nat) : (⟨g, 0, none⟩ : Addr).add j = ⟨g, j, none⟩ := by unfold Addr.add; split <;> simp_all
section
variable {w w' : World} {A : Option Addr} {c : Nat} {l : List UInt8}
theorem Bs.below (h : Bs w A c l) (hb : Below w.heap.size w w') : Bs w' A c l :=
  ⟨h.le, h.max, fun i hi => by
    obtain ⟨ad, e, hlt, hc⟩ := h.at_ i hi
    exact ⟨ad, e, Nat.lt_of_lt_of_le hlt hb.size, (hb.cell (p := ad.add i) (by rw [addr_add_block]; exact hlt)).trans hc⟩⟩
theorem Bs.drewN (h : Bs w A c l) (n : Nat) : Bs (w.drewN n) A c l := ⟨h.le, h.max, h.at_⟩
theorem Bs.nil (w : World) (A : Option Addr) (c : Nat) : Bs w A c [] := ⟨by simp, by simp, fun i hi => by simp at hi⟩
theorem Bs.cells (h : Bs w A c l) {ad : Addr} (ha : A = some ad) : ∀ j v, (u8s l)[j]? = some v → w.cell? (ad.add j) = some v := by
  intro j v hv
  have hj : j < l.length := by
    rcases Nat.lt_or_ge j l.length with h1 | h1
    · exact h1
    · rw [List.getElem?_eq_none (by rw [u8s_len]; exact h1)] at hv; cases hv
  obtain ⟨ad', e, _, hc⟩ := h.at_ j hj
  rw [ha] at e; injection e with e; subst e
  rw [hc]
  simp [u8s, u8, hj] at hv
  rw [← hv]; simp [hj]
end
theorem below_drewN {B : Nat} {w W : World} (h : Below B w W) (n : Nat) : Below B w (W.drewN n) := ⟨h.os, h.tape, h.output, h.size, h.block⟩
theorem below_then {B : Nat} {w w1 w2 : World} (h : Below B w w1) (hB : B ≤ w1.heap.size) (k : Below w1.heap.size w1 w2) : Below B w w2 :=
  h.trans ⟨k.os, k.tape, k.output, k.size, fun i hi => k.block i (Nat.lt_of_lt_of_le hi hB)⟩
/-- steps of a call: old memory stays -/
theorem below_step {w w1 w2 : World} (h : Below w.heap.size w w1) (k : Below w1.heap.size w1 w2) : Below w.heap.size w w2 := below_then h h.size k
theorem below_alloc {w w1 : World} (h : Below w.heap.size w w1) (o : Obj) : Below w.heap.size w (w1.alloc o) := h.alloc h.size o
theorem below_only {w w1 w2 : World} {T : Nat → Prop} (h : Below w.heap.size w w1) (k : Only w1 w2 T) (hT : ∀ i, T i → w.heap.size ≤ i) : Below w.heap.size w w2 := Below.then_only h k (Nat.le_refl _) hT

/-! a block of bytes known whole -/
def Blk (w : World) (g : Nat) (l : List UInt8) : Prop := w.heap[g]? = some (.cells (u8s l).toArray 5 (0, 0))
section
variable {w w' : World} {g : Nat} {l : List UInt8}
theorem Blk.lt (h : Blk w g l) : g < w.heap.size := blk_lt h
theorem Blk.cell (h : Blk w g l) (j : Nat) (hj : j < l.length) : w.cell? ⟨g, j, none⟩ = some (.int .u8 ((l.getD j 0).toNat : Int)) := by
  rw [blk_cell h]; simp [u8s, u8, hj]
theorem Blk.free (h : Blk w g l) (j : Nat) : w.frozen? ⟨g, j, none⟩ = false := blk_free h j
theorem Blk.set (h : Blk w g l) (j : Nat) (x : UInt8) : Blk (w.setCell ⟨g, j, none⟩ (.int .u8 (x.toNat : Int))) g (l.set j x) := by
  have h2 := blk_set h j (.int .u8 (x.toNat : Int))
  unfold Blk
  rw [h2]
  simp [u8s, u8, List.map_set]
theorem Blk.only {T : Nat → Prop} (h : Blk w g l) (k : Only w w' T) (hn : ¬ T g) : Blk w' g l := k.blk h hn
theorem Blk.drewN (h : Blk w g l) (n : Nat) : Blk (w.drewN n) g l := h
theorem Blk.bs (h : Blk w g l) (hl : l.length ≤ 140737488355328) : Bs w (some ⟨g, 0, none⟩) l.length l :=
  ⟨Nat.le_refl _, hl, fun i hi => ⟨_, rfl, h.lt, by rw [addr_add_plain]; exact h.cell i hi⟩⟩
end
/-! the same of an array of bytes: its block bears the array's type -/
def BlkT (w : World) (t : TypeId) (g : Nat) (l : List UInt8) : Prop := w.heap[g]? = some (.cells (u8s l).toArray t (0, 0))
section
variable {w w' : World} {t : TypeId} {g : Nat} {l : List UInt8}
theorem BlkT.cell (h : BlkT w t g l) (j : Nat) (hj : j < l.length) : w.cell? ⟨g, j, none⟩ = some (.int .u8 ((l.getD j 0).toNat : Int)) := by
  rw [blk_cell h]; simp [u8s, u8, hj]
theorem BlkT.free (h : BlkT w t g l) (j : Nat) : w.frozen? ⟨g, j, none⟩ = false := blk_free h j
theorem BlkT.set (h : BlkT w t g l) (j : Nat) (x : UInt8) : BlkT (w.setCell ⟨g, j, none⟩ (.int .u8 (x.toNat : Int))) t g (l.set j x) := by
  have h2 := blk_set h j (.int .u8 (x.toNat : Int))
  unfold BlkT
  rw [h2]
  simp [u8s, u8, List.map_set]
theorem BlkT.bs (h : BlkT w t g l) (hl : l.length ≤ 140737488355328) : Bs w (some ⟨g, 0, none⟩) l.length l :=
  ⟨Nat.le_refl _, hl, fun i hi => ⟨_, rfl, blk_lt h, by rw [addr_add_plain]; exact h.cell i hi⟩⟩
end
/-- an own slice of bytes, its block from base on -/
def Own (w : World) (base : Nat) (v : Value) (l : List UInt8) : Prop := w.ownsRow base 5 1 v l.length (u8s l) ∧ l.length ≤ 140737488355328
theorem own_mono {w : World} {b b' e n : Nat} {v : Value} {xs : List Value} (h : w.ownsRow b e 1 v n xs) (hb : b' ≤ b) : w.ownsRow b' e 1 v n xs := by
  refine ⟨h.1, ?_⟩
  rcases h.2 with h2 | ⟨g, cap, cur, hv, hg, r⟩
  · exact .inl h2
  · exact .inr ⟨g, cap, cur, hv, Nat.le_trans hb hg, r⟩
section
variable {w w' : World} {base g : Nat} {v : Value} {l : List UInt8}
theorem Own.nil (w : World) (base : Nat) : Own w base (.slice none 0 0) [] := ⟨⟨by simp [u8s], .inl ⟨rfl, rfl⟩⟩, by simp⟩
theorem Blk.own (h : Blk w g l) (hb : base ≤ g) (hl : l.length ≤ 140737488355328) : Own w base (.slice (some ⟨g, 0, none⟩) l.length l.length) l :=
  ⟨⟨by rw [u8s_len]; omega, .inr ⟨g, l.length, _, rfl, hb, h, Nat.le_refl _, by simp only [maxLen]; omega, by simp [u8s_len], by simp [List.take_of_length_le, u8s_len]⟩⟩, hl⟩
theorem Own.bs (h : Own w base v l) : ∃ A c, v = .slice A l.length c ∧ Bs w A c l := by
  rcases h.1.2 with ⟨rfl, h0⟩ | ⟨g, cap, cur, rfl, hb, hh, hn, hm, hs, ht⟩
  · have : l = [] := List.eq_nil_of_length_eq_zero h0
    subst this
    exact ⟨none, 0, rfl, Bs.nil _ _ _⟩
  · refine ⟨_, cap, rfl, hn, h.2, fun i hi => ⟨_, rfl, blk_lt hh, ?_⟩⟩
    have hc := h.1.cells (g := g) rfl i (.int .u8 ((l.getD i 0).toNat : Int)) (by simp [u8s, u8, hi])
    exact hc
theorem Own.below (h : Own w base v l) (hb : Below w.heap.size w w') : Own w' base v l := by
  refine ⟨⟨h.1.1, ?_⟩, h.2⟩
  rcases h.1.2 with h2 | ⟨g, cap, cur, hv, hg, hh, r⟩
  · exact .inl h2
  · exact .inr ⟨g, cap, cur, hv, hg, (hb.block g (blk_lt hh)).trans hh, r⟩
theorem Own.only {T : Nat → Prop} (h : Own w base v l) (k : Only w w' T) (hn : ∀ i, v.ownBlock = some i → ¬ T i) : Own w' base v l := by
  refine ⟨⟨h.1.1, ?_⟩, h.2⟩
  rcases h.1.2 with h2 | ⟨g, cap, cur, hv, hg, hh, r⟩
  · exact .inl h2
  · exact .inr ⟨g, cap, cur, hv, hg, k.blk hh (hn g (by rw [hv]; rfl)), r⟩
theorem Own.drewN (h : Own w base v l) (n : Nat) : Own (w.drewN n) base v l := h
theorem Own.mono {b' : Nat} (h : Own w base v l) (hb : b' ≤ base) : Own w b' v l := ⟨own_mono h.1 hb, h.2⟩
theorem Own.base_le (h : Own w base v l) {i : Nat} (hi : v.ownBlock = some i) : base ≤ i := by
  rcases h.1.2 with ⟨rfl, _⟩ | ⟨g, cap, cur, rfl, hb, _⟩
  · simp [Value.ownBlock] at hi
  · have : g = i := by simpa [Value.ownBlock] using hi
    omega
end
theorem info_u8 : (Tryz.prog.info? 5).map (fun i => (i.zero, i.size, i.bytes)) = some (some (.int .u8 0), 1, 1) := by kernel_rfl
theorem size_u8 : (Tryz.prog.info? 5).map (·.size) = some 1 := by kernel_rfl
theorem madeCells_u8 (m : Nat) : madeCells #[Value.int .u8 0] m = (u8s (List.replicate m 0)).toArray := by
  apply Array.ext_getElem?
  intro i
  by_cases hi : i < m
  · simp [madeCells, hi, Nat.mod_one, u8s, u8]
  · rw [Array.getElem?_eq_none (by rw [size_madeCells]; omega), Array.getElem?_eq_none (by simp [u8s_len]; omega)]
/-- so many zeros, behind a name that the walk does not open -/
def zs (m : Nat) : List UInt8 := List.replicate m 0
/-- make([]byte, m) -/
theorem make_u8 (m : Nat) (hm : m ≤ 140737488355328) (W : World) : (Instr.makeSlice 33 (.int .i64 (m : Int)) (.int .i64 (m : Int))).run Tryz.prog W = .ok (.slice (some ⟨W.heap.size, 0, none⟩) m m) (W.alloc (.cells (u8s (zs m)).toArray 5)) := by
  have h := run_make_row' (P := Tryz.prog) 33 5 (.int .u8 0) 1 Tryz.underlying33 info_u8 rfl .i64 .i64 m (by omega) (by omega) W
  rw [madeCells_u8] at h
  exact h
theorem blk_made (W : World) (m : Nat) : Blk (W.alloc (.cells (u8s (zs m)).toArray 5)) W.heap.size (List.replicate m 0) := blk_new _ _
theorem splice_get {L l : List UInt8} {o m i : Nat} (hl : l.length = m) (hn : o + m ≤ L.length) : (L.take o ++ l ++ L.drop (o + m))[i]? = if i < o then L[i]? else if i < o + m then l[i - o]? else L[i]? := by
  have h1 : (L.take o).length = o := by rw [List.length_take]; omega
  by_cases hi : i < o
  · rw [if_pos hi, List.append_assoc, List.getElem?_append_left (by omega), List.getElem?_take, if_pos hi]
  · rw [if_neg hi]
    by_cases hi2 : i < o + m
    · rw [if_pos hi2, List.append_assoc, List.getElem?_append_right (by omega), List.getElem?_append_left (by omega), h1]
    · rw [if_neg hi2, List.getElem?_append_right (by rw [List.length_append]; omega), List.getElem?_drop]
      congr 1
      rw [List.length_append]; omega
/-- copy onto a block known whole, from place o on -/
theorem copy_u8 {w : World} {g o n dc c : Nat} {L l : List UInt8} {A : Option Addr} (hb : Blk w g L) (hs : Bs w A c l) (hn : o + n ≤ L.length) (ty : TypeId) :
    ∃ w', (Builtin.copy_ #[33, 33] ty #[.slice (some ⟨g, o, none⟩) n dc, .slice A l.length c]).run Tryz.prog w = .ok (goInt (Nat.min l.length n)) w' ∧
      Blk w' g (L.take o ++ l.take (Nat.min l.length n) ++ L.drop (o + Nat.min l.length n)) ∧ Only w w' (fun k => k = g) := by
  have hmin : Nat.min l.length n ≤ l.length ∧ Nat.min l.length n ≤ n := ⟨Nat.min_le_left _ _, Nat.min_le_right _ _⟩
  generalize hm : Nat.min l.length n = m at *
  by_cases h0 : m = 0
  · subst h0
    refine ⟨w, ?_, by simpa using hb, Only.refl _ _⟩
    exact run_copy_none (P := Tryz.prog) w _ _ ty 5 _ _ _ _ _ _ Tryz.underlying33 size_u8 hm
  · obtain ⟨ad, rfl⟩ : ∃ ad, A = some ad := by
      obtain ⟨ad, e, _⟩ := hs.at_ 0 (by omega)
      exact ⟨ad, e⟩
    have hlen : (u8s (l.take m)).length = m := by rw [u8s_len, List.length_take]; omega
    have hrun := run_copy_cells (P := Tryz.prog) w 33 33 ty 5 g o n dc ad l.length c (u8s (l.take m)) Tryz.underlying33 size_u8 (by rw [hlen, hm])
      (fun j v hv => by
        have hj : j < m := by
          rcases Nat.lt_or_ge j m with h1 | h1
          · exact h1
          · rw [List.getElem?_eq_none (by omega)] at hv; cases hv
        refine hs.cells rfl j v ?_
        rw [← hv]
        simp [u8s, hj])
      (fun j hj => by rw [hb.cell (o + j) (by omega)]; rfl) (fun j hj => hb.free _)
      (fun v hv => by simp only [u8s, u8, List.mem_map] at hv; obtain ⟨q, _, rfl⟩ := hv; rfl)
    obtain ⟨⟨c2, h1, h2, h3⟩, h4⟩ := setCells_blk (u8s (l.take m)) o w _ hb (by simp [u8s_len]; omega)
    have hn2 : o + m ≤ L.length := by omega
    have hc2 : c2 = (u8s (L.take o ++ l.take m ++ L.drop (o + m))).toArray := by
      apply Array.ext_getElem?
      intro i
      rw [h3, hlen]
      have e0 : (u8s (L.take o ++ l.take m ++ L.drop (o + m))).toArray[i]? = (L.take o ++ l.take m ++ L.drop (o + m))[i]?.map u8 := u8s_arr _ _
      have e1 : (u8s L).toArray[i]? = L[i]?.map u8 := u8s_arr _ _
      have e2 : (u8s (l.take m))[i - o]? = (l.take m)[i - o]?.map u8 := u8s_at _ _
      rw [e0, e1, e2, splice_get (by rw [List.length_take]; omega) hn2]
      by_cases hi : i < o
      · rw [if_neg (by omega), if_pos hi]
      · by_cases hi2 : i < o + m
        · rw [if_pos (by omega), if_neg hi, if_pos hi2]
        · rw [if_neg (by omega), if_neg hi, if_neg hi2]
    refine ⟨_, by rw [hrun, hlen], ?_, h4⟩
    unfold Blk
    rw [h1, hc2]
/-- what a function answers that makes a list of bytes -/
def Ret (w : World) (l : List UInt8) (e : Ending) (w' : World) : Prop := ∃ v, e = .returned v ∧ Own w' w.heap.size v l ∧ Below w.heap.size w w'
theorem kind_u8 (x i : Nat) : IntKind.u8.wrap (((x / 2 ^ (8 * i) : Nat)) : Int) = ((UInt8.ofNat (x / 2 ^ (8 * i))).toNat : Int) := by
  rw [IntKind.wrap_u8]
  simp only [UInt8.toNat_ofNat']
  omega
theorem kind8 (x i : Nat) : IntKind.u8.wrap ((x : Int) / 2 ^ (8 * i)) = ((UInt8.ofNat (x / 2 ^ (8 * i))).toNat : Int) := by
  rw [← kind_u8]; push_cast; rfl
/-- numbers as bytes, highest first -/
def be : Nat → Nat → List UInt8
  | 0, _ => []
  | n + 1, x => UInt8.ofNat (x / 2 ^ (8 * n)) :: be n x
theorem be_len (n x : Nat) : (be n x).length = n := by induction n with
  | zero => rfl
  | succ n ih => simp [be, ih]
theorem be_step (L : List UInt8) (n i x : Nat) (hi : i < n) : (L ++ List.replicate (n - i) 0 ++ be i x).set (L.length + n - 1 - i) (UInt8.ofNat (x / 2 ^ (8 * i))) = L ++ List.replicate (n - (i + 1)) 0 ++ be (i + 1) x := by
  obtain ⟨m, rfl⟩ : ∃ m, n = i + 1 + m := ⟨n - i - 1, by omega⟩
  rw [show i + 1 + m - i = m + 1 by omega, show i + 1 + m - (i + 1) = m by omega, show L.length + (i + 1 + m) - 1 - i = L.length + m by omega]
  rw [List.replicate_succ', ← List.append_assoc, List.append_assoc (L ++ List.replicate m 0), List.set_append_right _ _ (by simp)]
  simp [be]
theorem be_step2 (R : List UInt8) (n i x : Nat) (hi : i < n) : (List.replicate (n - i) 0 ++ be i x ++ R).set (n - 1 - i) (UInt8.ofNat (x / 2 ^ (8 * i))) = List.replicate (n - (i + 1)) 0 ++ be (i + 1) x ++ R := by
  have h := be_step [] n i x hi
  simp only [List.nil_append, List.length_nil, Nat.zero_add] at h
  rw [List.set_append_left _ _ (by simp [be_len]; omega), h]
end Go.Proofs.YtafdhccdjbfepaaGreat.K
/- The walks of package bits: width and Put at each kind of number. -/
namespace Go.Proofs.YtafdhccdjbfepaaGreat.Bits
open Go.RowKit Go.Proofs.YtafdhccdjbfepaaGreat.K
set_option linter.unusedVariables false


set_option maxRecDepth 100000 in
theorem width_uint8 (w : World) : Calls Tryz.prog 82 #[] w fun e w' => e = .returned (.int .i64 1) ∧ w = w' := by
  go_enter Tryz.func82, Tryz.ntmps82
  go_wp2_with fail
  go_loopg [1, 2] 1 (fun gk n x wr => wr = w ∧ ((gk = 1 ∧ n = .int .i64 0 ∧ x = .int .u64 255) ∨ (gk = 0 ∧ n = .int .i64 1 ∧ x = .int .u64 0)))
  case atStart => exact ⟨rfl, .inl ⟨rfl, rfl, rfl⟩⟩
  case round =>
    obtain ⟨rfl, h⟩ := hrel
    rcases h with ⟨rfl, rfl, rfl⟩ | ⟨rfl, rfl, rfl⟩
    · go_wp2_with fail
      go_roundg 0
      case measure => omega
      case rel => exact ⟨rfl, .inr (⟨rfl, rfl, rfl⟩)⟩
    · go_wp2_with fail
      go_ret
      exact ⟨rfl, rfl⟩

set_option maxRecDepth 100000 in
theorem put_uint8 (A : Option Addr) (c : Nat) (l : List UInt8) (x : Nat) (w : World) (hs : Bs w A c l) (hl : l.length ≤ 140737488351232) (hx : x < 256) :
    Calls Tryz.prog 60 #[.slice A l.length c, .int .u8 (x : Int)] w (Ret w (l ++ be 1 x)) := by
  have hmk := fun W => make_u8 (l.length + 1) (by omega) W
  have hL := blk_made w (l.length + 1)
  obtain ⟨w2, hcopy, hb2, ho2⟩ := copy_u8 (n := l.length + 1) (dc := l.length + 1) (o := 0) hL (hs.below ((Below.refl _ _).alloc (Nat.le_refl _) _)) (by simp) 3
  have HB2 : Hid (Blk w2 w.heap.size (l ++ List.replicate 1 0) ∧ Below w.heap.size w w2) := by
    have hm : Nat.min l.length (l.length + 1) = l.length := Nat.min_eq_left (by omega)
    rw [hm] at hb2
    refine ⟨?_, below_only ((Below.refl _ _).alloc (Nat.le_refl _) _) ho2 (fun i hi => by rw [hi]; exact Nat.le_refl _)⟩
    simpa [List.take_of_length_le] using hb2
  have hln : l.length ≤ 9223372036854775000 := by omega
  have hmk2 : ∀ W : World, (Instr.makeSlice 33 (.int .i64 ((l.length : Int) + 1)) (.int .i64 ((l.length : Int) + 1))).run Tryz.prog W = .ok (.slice (some ⟨W.heap.size, 0, none⟩) (l.length + 1) (l.length + 1)) (W.alloc (.cells (u8s (zs (l.length + 1))).toArray 5)) := fun W => by
    have h := hmk W
    push_cast at h
    exact h
  clear hmk hL hb2 ho2
  have HS := Lib.hid hs
  clear hs
  go_enter Tryz.func60, Tryz.ntmps60
  go_wp2_with (go_at_call 82; refine (width_uint8 _).mono ?_; rintro e w' ⟨rfl, rfl⟩)
  go_loopg [18] 1 (fun gk i wr => ∃ j : Nat, j ≤ 1 ∧ gk = 1 - j ∧ i = .int .i64 (j : Int) ∧ Blk wr w.heap.size (l ++ List.replicate (1 - j) 0 ++ be j x) ∧ Below w.heap.size w wr)
  case atStart => exact ⟨0, by omega, rfl, rfl, by simpa [be] using HB2.out.1, HB2.out.2⟩
  case round =>
    obtain ⟨j, hj, rfl, rfl, hb, hbel⟩ := hrel
    have HB := Lib.hid hb
    have HBL := Lib.hid hbel
    have HLN := Lib.hid (show (l ++ List.replicate (1 - j) 0 ++ be j x).length = l.length + 1 by simp [be_len]; omega)
    clear hb hbel
    by_cases hlt : j < 1
    · have hlt2 : (j : Int) < 1 := by omega
      have hc1 := HB.out.cell (l.length - j) (by rw [HLN.out]; omega)
      have hf1 := HB.out.free (l.length - j)
      have hw : IntKind.u8.wrap ((x : Int) / 2 ^ (8 * j)) = ((UInt8.ofNat (x / 2 ^ (8 * j))).toNat : Int) := kind8 x j
      have HST := Lib.hid (be_step l 1 j x hlt)
      rw [show l.length + 1 - 1 - j = l.length - j by omega] at HST
      have HSET := Lib.hid (HB.out.set (l.length - j) (UInt8.ofNat (x / 2 ^ (8 * j))))
      generalize UInt8.ofNat (x / 2 ^ (8 * j)) = y at hw HST HSET
      generalize (l ++ List.replicate (1 - j) 0 ++ be j x).getD (l.length - j) 0 = z at hc1
      go_wp2_with fail
      go_roundg (1 - (j + 1))
      case measure => omega
      case rel =>
        refine ⟨j + 1, by omega, rfl, by go_num, ?_, below_only HBL.out ((Only.refl wr (fun k => k = w.heap.size)).setCell (p := ⟨w.heap.size, _, none⟩) (.inl rfl) _) (fun i hi => by rw [hi]; exact Nat.le_refl _)⟩
        rw [← HST.out]
        exact HSET.out
    · obtain rfl : j = 1 := by omega
      go_wp2_with fail
      go_ret
      have h := HB.out
      simp only [Nat.sub_self, List.replicate_zero, List.append_nil] at h
      have h2 := h.own (base := w.heap.size) (Nat.le_refl _) (by simp [be_len]; omega)
      have hl2 : (l ++ be 1 x).length = l.length + 1 := by simp [be_len]
      rw [hl2] at h2
      exact ⟨_, rfl, h2, HBL.out⟩

set_option maxRecDepth 100000 in
theorem width_uint32 (w : World) : Calls Tryz.prog 79 #[] w fun e w' => e = .returned (.int .i64 4) ∧ w = w' := by
  go_enter Tryz.func79, Tryz.ntmps79
  go_wp2_with fail
  go_loopg [1, 2] 4 (fun gk n x wr => wr = w ∧ ((gk = 4 ∧ n = .int .i64 0 ∧ x = .int .u64 4294967295) ∨ (gk = 3 ∧ n = .int .i64 1 ∧ x = .int .u64 16777215) ∨ (gk = 2 ∧ n = .int .i64 2 ∧ x = .int .u64 65535) ∨ (gk = 1 ∧ n = .int .i64 3 ∧ x = .int .u64 255) ∨ (gk = 0 ∧ n = .int .i64 4 ∧ x = .int .u64 0)))
  case atStart => exact ⟨rfl, .inl ⟨rfl, rfl, rfl⟩⟩
  case round =>
    obtain ⟨rfl, h⟩ := hrel
    rcases h with ⟨rfl, rfl, rfl⟩ | ⟨rfl, rfl, rfl⟩ | ⟨rfl, rfl, rfl⟩ | ⟨rfl, rfl, rfl⟩ | ⟨rfl, rfl, rfl⟩
    · go_wp2_with fail
      go_roundg 3
      case measure => omega
      case rel => exact ⟨rfl, .inr (.inl ⟨rfl, rfl, rfl⟩)⟩
    · go_wp2_with fail
      go_roundg 2
      case measure => omega
      case rel => exact ⟨rfl, .inr (.inr (.inl ⟨rfl, rfl, rfl⟩))⟩
    · go_wp2_with fail
      go_roundg 1
      case measure => omega
      case rel => exact ⟨rfl, .inr (.inr (.inr (.inl ⟨rfl, rfl, rfl⟩)))⟩
    · go_wp2_with fail
      go_roundg 0
      case measure => omega
      case rel => exact ⟨rfl, .inr (.inr (.inr (.inr (⟨rfl, rfl, rfl⟩))))⟩
    · go_wp2_with fail
      go_ret
      exact ⟨rfl, rfl⟩

set_option maxRecDepth 100000 in
theorem put_uint32 (A : Option Addr) (c : Nat) (l : List UInt8) (x : Nat) (w : World) (hs : Bs w A c l) (hl : l.length ≤ 140737488351232) (hx : x < 4294967296) :
    Calls Tryz.prog 36 #[.slice A l.length c, .int .u32 (x : Int)] w (Ret w (l ++ be 4 x)) := by
  have hmk := fun W => make_u8 (l.length + 4) (by omega) W
  have hL := blk_made w (l.length + 4)
  obtain ⟨w2, hcopy, hb2, ho2⟩ := copy_u8 (n := l.length + 4) (dc := l.length + 4) (o := 0) hL (hs.below ((Below.refl _ _).alloc (Nat.le_refl _) _)) (by simp) 3
  have HB2 : Hid (Blk w2 w.heap.size (l ++ List.replicate 4 0) ∧ Below w.heap.size w w2) := by
    have hm : Nat.min l.length (l.length + 4) = l.length := Nat.min_eq_left (by omega)
    rw [hm] at hb2
    refine ⟨?_, below_only ((Below.refl _ _).alloc (Nat.le_refl _) _) ho2 (fun i hi => by rw [hi]; exact Nat.le_refl _)⟩
    simpa [List.take_of_length_le] using hb2
  have hln : l.length ≤ 9223372036854775000 := by omega
  have hmk2 : ∀ W : World, (Instr.makeSlice 33 (.int .i64 ((l.length : Int) + 4)) (.int .i64 ((l.length : Int) + 4))).run Tryz.prog W = .ok (.slice (some ⟨W.heap.size, 0, none⟩) (l.length + 4) (l.length + 4)) (W.alloc (.cells (u8s (zs (l.length + 4))).toArray 5)) := fun W => by
    have h := hmk W
    push_cast at h
    exact h
  clear hmk hL hb2 ho2
  have HS := Lib.hid hs
  clear hs
  go_enter Tryz.func36, Tryz.ntmps36
  go_wp2_with (go_at_call 79; refine (width_uint32 _).mono ?_; rintro e w' ⟨rfl, rfl⟩)
  go_loopg [18] 4 (fun gk i wr => ∃ j : Nat, j ≤ 4 ∧ gk = 4 - j ∧ i = .int .i64 (j : Int) ∧ Blk wr w.heap.size (l ++ List.replicate (4 - j) 0 ++ be j x) ∧ Below w.heap.size w wr)
  case atStart => exact ⟨0, by omega, rfl, rfl, by simpa [be] using HB2.out.1, HB2.out.2⟩
  case round =>
    obtain ⟨j, hj, rfl, rfl, hb, hbel⟩ := hrel
    have HB := Lib.hid hb
    have HBL := Lib.hid hbel
    have HLN := Lib.hid (show (l ++ List.replicate (4 - j) 0 ++ be j x).length = l.length + 4 by simp [be_len]; omega)
    clear hb hbel
    by_cases hlt : j < 4
    · have hlt2 : (j : Int) < 4 := by omega
      have hc1 := HB.out.cell (l.length + 3 - j) (by rw [HLN.out]; omega)
      have hf1 := HB.out.free (l.length + 3 - j)
      have hw : IntKind.u8.wrap ((x : Int) / 2 ^ (8 * j)) = ((UInt8.ofNat (x / 2 ^ (8 * j))).toNat : Int) := kind8 x j
      have HST := Lib.hid (be_step l 4 j x hlt)
      rw [show l.length + 4 - 1 - j = l.length + 3 - j by omega] at HST
      have HSET := Lib.hid (HB.out.set (l.length + 3 - j) (UInt8.ofNat (x / 2 ^ (8 * j))))
      generalize UInt8.ofNat (x / 2 ^ (8 * j)) = y at hw HST HSET
      generalize (l ++ List.replicate (4 - j) 0 ++ be j x).getD (l.length + 3 - j) 0 = z at hc1
      go_wp2_with fail
      go_roundg (4 - (j + 1))
      case measure => omega
      case rel =>
        refine ⟨j + 1, by omega, rfl, by go_num, ?_, below_only HBL.out ((Only.refl wr (fun k => k = w.heap.size)).setCell (p := ⟨w.heap.size, _, none⟩) (.inl rfl) _) (fun i hi => by rw [hi]; exact Nat.le_refl _)⟩
        rw [← HST.out]
        exact HSET.out
    · obtain rfl : j = 4 := by omega
      go_wp2_with fail
      go_ret
      have h := HB.out
      simp only [Nat.sub_self, List.replicate_zero, List.append_nil] at h
      have h2 := h.own (base := w.heap.size) (Nat.le_refl _) (by simp [be_len]; omega)
      have hl2 : (l ++ be 4 x).length = l.length + 4 := by simp [be_len]
      rw [hl2] at h2
      exact ⟨_, rfl, h2, HBL.out⟩

set_option maxRecDepth 100000 in
theorem width_uint64 (w : World) : Calls Tryz.prog 78 #[] w fun e w' => e = .returned (.int .i64 8) ∧ w = w' := by
  go_enter Tryz.func78, Tryz.ntmps78
  go_wp2_with fail
  go_loopg [1, 2] 8 (fun gk n x wr => wr = w ∧ ((gk = 8 ∧ n = .int .i64 0 ∧ x = .int .u64 18446744073709551615) ∨ (gk = 7 ∧ n = .int .i64 1 ∧ x = .int .u64 72057594037927935) ∨ (gk = 6 ∧ n = .int .i64 2 ∧ x = .int .u64 281474976710655) ∨ (gk = 5 ∧ n = .int .i64 3 ∧ x = .int .u64 1099511627775) ∨ (gk = 4 ∧ n = .int .i64 4 ∧ x = .int .u64 4294967295) ∨ (gk = 3 ∧ n = .int .i64 5 ∧ x = .int .u64 16777215) ∨ (gk = 2 ∧ n = .int .i64 6 ∧ x = .int .u64 65535) ∨ (gk = 1 ∧ n = .int .i64 7 ∧ x = .int .u64 255) ∨ (gk = 0 ∧ n = .int .i64 8 ∧ x = .int .u64 0)))
  case atStart => exact ⟨rfl, .inl ⟨rfl, rfl, rfl⟩⟩
  case round =>
    obtain ⟨rfl, h⟩ := hrel
    rcases h with ⟨rfl, rfl, rfl⟩ | ⟨rfl, rfl, rfl⟩ | ⟨rfl, rfl, rfl⟩ | ⟨rfl, rfl, rfl⟩ | ⟨rfl, rfl, rfl⟩ | ⟨rfl, rfl, rfl⟩ | ⟨rfl, rfl, rfl⟩ | ⟨rfl, rfl, rfl⟩ | ⟨rfl, rfl, rfl⟩
    · go_wp2_with fail
      go_roundg 7
      case measure => omega
      case rel => exact ⟨rfl, .inr (.inl ⟨rfl, rfl, rfl⟩)⟩
    · go_wp2_with fail
      go_roundg 6
      case measure => omega
      case rel => exact ⟨rfl, .inr (.inr (.inl ⟨rfl, rfl, rfl⟩))⟩
    · go_wp2_with fail
      go_roundg 5
      case measure => omega
      case rel => exact ⟨rfl, .inr (.inr (.inr (.inl ⟨rfl, rfl, rfl⟩)))⟩
    · go_wp2_with fail
      go_roundg 4
      case measure => omega
      case rel => exact ⟨rfl, .inr (.inr (.inr (.inr (.inl ⟨rfl, rfl, rfl⟩))))⟩
    · go_wp2_with fail
      go_roundg 3
      case measure => omega
      case rel => exact ⟨rfl, .inr (.inr (.inr (.inr (.inr (.inl ⟨rfl, rfl, rfl⟩)))))⟩
    · go_wp2_with fail
      go_roundg 2
      case measure => omega
      case rel => exact ⟨rfl, .inr (.inr (.inr (.inr (.inr (.inr (.inl ⟨rfl, rfl, rfl⟩))))))⟩
    · go_wp2_with fail
      go_roundg 1
      case measure => omega
      case rel => exact ⟨rfl, .inr (.inr (.inr (.inr (.inr (.inr (.inr (.inl ⟨rfl, rfl, rfl⟩)))))))⟩
    · go_wp2_with fail
      go_roundg 0
      case measure => omega
      case rel => exact ⟨rfl, .inr (.inr (.inr (.inr (.inr (.inr (.inr (.inr (⟨rfl, rfl, rfl⟩))))))))⟩
    · go_wp2_with fail
      go_ret
      exact ⟨rfl, rfl⟩

set_option maxRecDepth 100000 in
theorem put_uint64 (A : Option Addr) (c : Nat) (l : List UInt8) (x : Nat) (w : World) (hs : Bs w A c l) (hl : l.length ≤ 140737488351232) (hx : x < 18446744073709551616) :
    Calls Tryz.prog 33 #[.slice A l.length c, .int .u64 (x : Int)] w (Ret w (l ++ be 8 x)) := by
  have hmk := fun W => make_u8 (l.length + 8) (by omega) W
  have hL := blk_made w (l.length + 8)
  obtain ⟨w2, hcopy, hb2, ho2⟩ := copy_u8 (n := l.length + 8) (dc := l.length + 8) (o := 0) hL (hs.below ((Below.refl _ _).alloc (Nat.le_refl _) _)) (by simp) 3
  have HB2 : Hid (Blk w2 w.heap.size (l ++ List.replicate 8 0) ∧ Below w.heap.size w w2) := by
    have hm : Nat.min l.length (l.length + 8) = l.length := Nat.min_eq_left (by omega)
    rw [hm] at hb2
    refine ⟨?_, below_only ((Below.refl _ _).alloc (Nat.le_refl _) _) ho2 (fun i hi => by rw [hi]; exact Nat.le_refl _)⟩
    simpa [List.take_of_length_le] using hb2
  have hln : l.length ≤ 9223372036854775000 := by omega
  have hmk2 : ∀ W : World, (Instr.makeSlice 33 (.int .i64 ((l.length : Int) + 8)) (.int .i64 ((l.length : Int) + 8))).run Tryz.prog W = .ok (.slice (some ⟨W.heap.size, 0, none⟩) (l.length + 8) (l.length + 8)) (W.alloc (.cells (u8s (zs (l.length + 8))).toArray 5)) := fun W => by
    have h := hmk W
    push_cast at h
    exact h
  clear hmk hL hb2 ho2
  have HS := Lib.hid hs
  clear hs
  go_enter Tryz.func33, Tryz.ntmps33
  go_wp2_with (go_at_call 78; refine (width_uint64 _).mono ?_; rintro e w' ⟨rfl, rfl⟩)
  go_loopg [18] 8 (fun gk i wr => ∃ j : Nat, j ≤ 8 ∧ gk = 8 - j ∧ i = .int .i64 (j : Int) ∧ Blk wr w.heap.size (l ++ List.replicate (8 - j) 0 ++ be j x) ∧ Below w.heap.size w wr)
  case atStart => exact ⟨0, by omega, rfl, rfl, by simpa [be] using HB2.out.1, HB2.out.2⟩
  case round =>
    obtain ⟨j, hj, rfl, rfl, hb, hbel⟩ := hrel
    have HB := Lib.hid hb
    have HBL := Lib.hid hbel
    have HLN := Lib.hid (show (l ++ List.replicate (8 - j) 0 ++ be j x).length = l.length + 8 by simp [be_len]; omega)
    clear hb hbel
    by_cases hlt : j < 8
    · have hlt2 : (j : Int) < 8 := by omega
      have hc1 := HB.out.cell (l.length + 7 - j) (by rw [HLN.out]; omega)
      have hf1 := HB.out.free (l.length + 7 - j)
      have hw : IntKind.u8.wrap ((x : Int) / 2 ^ (8 * j)) = ((UInt8.ofNat (x / 2 ^ (8 * j))).toNat : Int) := kind8 x j
      have HST := Lib.hid (be_step l 8 j x hlt)
      rw [show l.length + 8 - 1 - j = l.length + 7 - j by omega] at HST
      have HSET := Lib.hid (HB.out.set (l.length + 7 - j) (UInt8.ofNat (x / 2 ^ (8 * j))))
      generalize UInt8.ofNat (x / 2 ^ (8 * j)) = y at hw HST HSET
      generalize (l ++ List.replicate (8 - j) 0 ++ be j x).getD (l.length + 7 - j) 0 = z at hc1
      go_wp2_with fail
      go_roundg (8 - (j + 1))
      case measure => omega
      case rel =>
        refine ⟨j + 1, by omega, rfl, by go_num, ?_, below_only HBL.out ((Only.refl wr (fun k => k = w.heap.size)).setCell (p := ⟨w.heap.size, _, none⟩) (.inl rfl) _) (fun i hi => by rw [hi]; exact Nat.le_refl _)⟩
        rw [← HST.out]
        exact HSET.out
    · obtain rfl : j = 8 := by omega
      go_wp2_with fail
      go_ret
      have h := HB.out
      simp only [Nat.sub_self, List.replicate_zero, List.append_nil] at h
      have h2 := h.own (base := w.heap.size) (Nat.le_refl _) (by simp [be_len]; omega)
      have hl2 : (l ++ be 8 x).length = l.length + 8 := by simp [be_len]
      rw [hl2] at h2
      exact ⟨_, rfl, h2, HBL.out⟩
end Go.Proofs.YtafdhccdjbfepaaGreat.Bits
/- The walks of the document's helpers: SameBytes, Bytes; of bytes.Equal. -/
namespace Go.Proofs.YtafdhccdjbfepaaGreat.Help
open Go.RowKit Go.Proofs.YtafdhccdjbfepaaGreat.K
set_option linter.unusedVariables false

/-- a pure answer: old memory stays -/
def Pure (w : World) (v : Value) (e : Ending) (w' : World) : Prop := e = .returned v ∧ Below w.heap.size w w'
theorem quiet_pure {w : World} {v : Value} {e : Ending} {w' : World} (h : Quiet v w e w') : Pure w v e w' := by
  obtain ⟨n, rfl, rfl⟩ := h; exact ⟨rfl, below_drewN (Below.refl _ _) n⟩
theorem take_snoc8 {l : List UInt8} {i : Nat} (h : i < l.length) : l.take (i + 1) = l.take i ++ [l.getD i 0] := by
  rw [List.take_succ_eq_append_getElem h]; simp [h]

set_option maxRecDepth 100000 in
theorem sameBytes (A B : Option Addr) (c d : Nat) (l m : List UInt8) (w : World) (ha : Bs w A c l) (hb : Bs w B d m) :
    Calls Tryz.prog 34 #[.slice A l.length c, .slice B m.length d] w (Quiet (.bool (decide (l = m))) w) := by
  have HA := Lib.hid ha
  have HB := Lib.hid hb
  have h1 := ha.max
  have h2 := hb.max
  clear ha hb
  obtain ⟨t, ht⟩ : ∃ t, decide (l = m) = t := ⟨_, rfl⟩
  rw [ht]
  have HT := Lib.hid ht
  clear ht
  by_cases hl : l.length = m.length
  · have hne : ((l.length : Int) != m.length) = false := by rw [bne_eq_false_iff_eq]; omega
    have HLL := Lib.hid hl
    clear hl
    go_enter Tryz.func34, Tryz.ntmps34
    go_wp2_with fail
    go_loopg [5] l.length (fun gk i wr => ∃ k : Nat, k ≤ l.length ∧ gk = l.length - k ∧ i = .int .i64 (k : Int) ∧ l.take k = m.take k ∧ ∃ q, wr = w.drewN q)
    case atStart => exact ⟨0, by omega, rfl, rfl, by simp, 0, rfl⟩
    case round =>
      obtain ⟨k, hk, rfl, rfl, hT, q, rfl⟩ := hrel
      have HTK := Lib.hid hT
      clear hT
      by_cases hlt : k < l.length
      · have hlm : k < m.length := by rw [← HLL.out]; exact hlt
        obtain ⟨ad, e1, _, c1⟩ := HA.out.at_ k hlt
        obtain ⟨bd, e2, _, c2⟩ := HB.out.at_ k hlm
        subst e1 e2
        have hkm : (k : Int) < m.length := by omega
        by_cases hx : l.getD k 0 = m.getD k 0
        · have hx1 : (((l.getD k 0).toNat : Int) != (m.getD k 0).toNat) = false := by rw [hx]; simp
          have HN := Lib.hid (show l.take (k + 1) = m.take (k + 1) by rw [take_snoc8 hlt, take_snoc8 hlm, HTK.out, hx])
          clear hx
          generalize l.getD k 0 = x at *
          generalize m.getD k 0 = y at *
          go_wp2_with fail
          go_quiet (fail)
          go_wp2_with fail
          go_roundg (l.length - (k + 1))
          case measure => omega
          case rel => exact ⟨k + 1, by omega, rfl, by go_num, HN, _, rfl⟩
        · have hx1 : (((l.getD k 0).toNat : Int) != (m.getD k 0).toNat) = true := by
            rw [bne_iff_ne]; intro h; exact hx (UInt8.toNat_inj.1 (by omega))
          have HF : Hid (t = false) := by rw [Hid, ← HT.out]; exact decide_eq_false (fun e => hx (by rw [e]))
          clear hx
          generalize l.getD k 0 = x at *
          generalize m.getD k 0 = y at *
          go_wp2_with fail
          go_quiet (fail)
          go_wp2_with fail
          go_ret
          exact ⟨q + nq, ret_bool HF.out.symm, World.drewN_drewN ..⟩
      · obtain rfl : k = l.length := by omega
        have HF : Hid (t = true) := by
          have h := HTK.out
          rw [List.take_of_length_le (by omega), List.take_of_length_le (by rw [HLL.out]; omega)] at h
          rw [Hid, ← HT.out]; exact decide_eq_true h
        go_wp2_with fail
        go_ret
        exact ⟨_, ret_bool HF.out.symm, rfl⟩
  · have hne : ((l.length : Int) != m.length) = true := by rw [bne_iff_ne]; omega
    have HF : Hid (t = false) := by rw [Hid, ← HT.out]; exact decide_eq_false (fun e => hl (by rw [e]))
    clear hl
    go_enter Tryz.func34, Tryz.ntmps34
    go_wp2_with fail
    go_ret
    exact ⟨0, ret_bool HF.out.symm, rfl⟩

/-- an own row of bytes with one more -/
theorem Own.push {w1 : World} {base : Nat} {v1 : Value} {l : List UInt8} {b : UInt8} (h : w1.ownsRow base 5 1 v1 (l.length + 1) (u8s l ++ [.int .u8 (b.toNat : Int)])) (hl : l.length + 1 ≤ 140737488355328) : Own w1 base v1 (l ++ [b]) := by
  refine ⟨?_, by simp; omega⟩
  rw [u8s_snoc]; simpa using h

section
variable {P : Program} {ops : Array Oper} {rest : List Oper} {o : Oper} {a : Act} {Q : Exit → Act → World → Prop}
/-- append(v, b), v a slice of bytes of the call's own, from block B on: what is known behind it -/
theorem push_at {B : Nat} {W0 W : World} (hgd : o.guard = none) (s x : Operand)
    (ho : o.op = .call { callee := .builtin .append, args := #[s, x], argTypes := #[33, 33] })
    (v : Value) (l : List UInt8) (b : UInt8) (hs : a.eval s = v) (hx : a.eval x = .slice (some ⟨W.heap.size, 0, none⟩) 1 1)
    (HO : Own W B v l) (HB : Below B W0 W) (hBW : B ≤ W.heap.size) (hl : l.length + 1 ≤ 140737488355328)
    (h : ∀ A c w1, Own w1 B (.slice A (l.length + 1) c) (l ++ [b]) → Below B W0 w1 → wpList Tryz.prog ops Q rest (a.put o.dst (.slice A (l.length + 1) c)) w1) :
    wpList Tryz.prog ops Q (o :: rest) a (W.alloc (.cells #[.int .u8 (b.toNat : Int)] 5)) := by
  obtain ⟨i0, hi, hzz⟩ := Option.map_eq_some_iff.1 info_u8
  simp only [Prod.mk.injEq] at hzz
  obtain ⟨hz0, hz1, hz2⟩ := hzz
  refine wpList_append_own_at (W.alloc (.cells #[.int .u8 (b.toNat : Int)] 5)) hgd s x _ ho B 5 i0 (.int .u8 0) 1 1 Tryz.underlying33 hi hz0 hz1 hz2 rfl (by omega) v l.length (u8s l) hs (HO.1.alloc _) ⟨W.heap.size, 0, none⟩ 1 1 [.int .u8 (b.toNat : Int)] hx rfl
    (World.news_of_block (cs := #[.int .u8 (b.toNat : Int)]) (t := 5) (fr := (0, 0)) (heap_alloc_new W _)) (by intro u hu; simp at hu; rw [hu]; rfl) (by simp only [maxLen]; omega) (by omega) (by simp; omega) ?_
  intro v1 w1 hown hg _ hat
  have hO := Own.push hown hl
  obtain ⟨A, c, rfl, _⟩ := hO.bs
  have e : (l ++ [b]).length = l.length + 1 := by simp
  rw [e] at hO ⊢
  exact h A c w1 hO ((HB.alloc hBW _).grown hg (by simp; omega) (fun k hk => HO.base_le hk))
theorem push_u8 {W0 W : World} (hgd : o.guard = none) (s x : Operand)
    (ho : o.op = .call { callee := .builtin .append, args := #[s, x], argTypes := #[33, 33] })
    (v : Value) (l : List UInt8) (b : UInt8) (hs : a.eval s = v) (hx : a.eval x = .slice (some ⟨W.heap.size, 0, none⟩) 1 1)
    (HO : Own W W0.heap.size v l) (HB : Below W0.heap.size W0 W) (hl : l.length + 1 ≤ 140737488355328)
    (h : ∀ A c w1, Own w1 W0.heap.size (.slice A (l.length + 1) c) (l ++ [b]) → Below W0.heap.size W0 w1 → wpList Tryz.prog ops Q rest (a.put o.dst (.slice A (l.length + 1) c)) w1) :
    wpList Tryz.prog ops Q (o :: rest) a (W.alloc (.cells #[.int .u8 (b.toNat : Int)] 5)) := push_at hgd s x ho v l b hs hx HO HB HB.size hl h
end

set_option maxRecDepth 100000 in
theorem bytes (A : Option Addr) (c : Nat) (l : List UInt8) (w : World) (ha : Bs w A c l) :
    Calls Tryz.prog 47 #[.slice A l.length c] w (Ret w l) := by
  have HA := Lib.hid ha
  have h1 := ha.max
  clear ha
  go_enter Tryz.func47, Tryz.ntmps47
  go_wp2_with fail
  go_loopg [3, 4] l.length (fun gk v i wr => ∃ k : Nat, k ≤ l.length ∧ gk = l.length - k ∧ i = .int .i64 (k : Int) ∧ Own wr w.heap.size v (l.take k) ∧ Below w.heap.size w wr)
  case atStart => exact ⟨0, by omega, rfl, rfl, by simpa using Own.nil w _, Below.refl _ _⟩
  case round =>
    obtain ⟨k, hk, rfl, rfl, hO, hB⟩ := hrel
    obtain ⟨VA, vc, rfl, _⟩ := hO.bs
    have hlk : (l.take k).length = k := by rw [List.length_take]; omega
    have HO := Lib.hid hO
    have HB := Lib.hid hB
    clear hO hB
    rw [hlk] at HO
    rw [hlk]
    by_cases hlt : k < l.length
    · obtain ⟨ad, e1, hlt2, c1⟩ := HA.out.at_ k hlt
      subst e1
      have c2 := (HB.out.cell (p := ad.add k) (by rw [addr_add_block]; exact hlt2)).trans c1
      have HX := Lib.hid (take_snoc8 hlt)
      have HK := Lib.hid hlk
      clear c1 hlk hlt2
      generalize l.getD k 0 = x at *
      go_wp2_with (at_builtin; refine push_u8 (W0 := w) rfl (.tmp 11) (.tmp 16) rfl (.slice VA k vc) (l.take k) x rfl rfl HO.out HB.out (by rw [HK.out]; omega) ?_; intro A1 c1 w1 hO1 hB1; rw [HK.out] at hO1 ⊢; have HO1 := Lib.hid hO1; have HB1 := Lib.hid hB1; clear hO1 hB1)
      go_roundg (l.length - (k + 1))
      case measure => omega
      case rel =>
        refine ⟨k + 1, by omega, rfl, by go_num, ?_, HB1.out⟩
        rw [HX.out]; exact HO1.out
    · obtain rfl : k = l.length := by omega
      go_wp2_with fail
      go_ret
      refine ⟨_, rfl, ?_, HB.out⟩
      have := HO.out
      rwa [List.take_of_length_le (by omega)] at this
end Go.Proofs.YtafdhccdjbfepaaGreat.Help
/- The walks of the document's number and read (culvertref15). -/
namespace Go.Proofs.YtafdhccdjbfepaaGreat.Help
open Go.RowKit Go.Proofs.YtafdhccdjbfepaaGreat.K
set_option linter.unusedVariables false

theorem be_get (n x j : Nat) (h : j < n) : (be n x).getD j 0 = UInt8.ofNat (x / 2 ^ (8 * (n - 1 - j))) := by
  induction n generalizing j with
  | zero => omega
  | succ n ih =>
    cases j with
    | zero => simp [be]
    | succ j =>
      have := ih j (by omega)
      simp only [be, List.getD_cons_succ]
      rw [this]
      congr 3
      omega
set_option maxRecDepth 100000 in
theorem number (x n : Nat) (w : World) (hn : n ≤ 8) (hx : x < 18446744073709551616) :
    Calls Tryz.prog 65 #[.int .u64 (x : Int), .int .i64 (n : Int)] w (Ret w (be n x)) := by
  go_enter Tryz.func65, Tryz.ntmps65
  go_wp2_with fail
  go_loopg [5, 6] n (fun gk v i wr => ∃ j : Nat, j ≤ n ∧ gk = n - j ∧ i = .int .i64 ((n : Int) - 1 - j) ∧ Own wr w.heap.size v ((be n x).take j) ∧ Below w.heap.size w wr)
  case atStart => exact ⟨0, by omega, rfl, by simp, by simpa using Own.nil w _, Below.refl _ _⟩
  case round =>
    obtain ⟨j, hj, rfl, rfl, hO, hB⟩ := hrel
    obtain ⟨VA, vc, rfl, _⟩ := hO.bs
    have hbl := be_len n x
    have hlk : ((be n x).take j).length = j := by rw [List.length_take]; omega
    have HO := Lib.hid hO
    have HB := Lib.hid hB
    clear hO hB
    rw [hlk] at HO
    rw [hlk]
    by_cases hlt : j < n
    · obtain ⟨m, hm⟩ : ∃ m : Nat, n - 1 - j = m := ⟨_, rfl⟩
      have hmi : (n : Int) - 1 - j = m := by omega
      have hm8 : m ≤ 7 := by omega
      have HX := Lib.hid (take_snoc8 (l := be n x) (i := j) (by omega))
      have HG := Lib.hid (be_get n x j hlt)
      have hw := kind8 x m
      rw [hm] at HG
      have HK := Lib.hid hlk
      have HMI := Lib.hid hmi
      rw [hmi]
      clear hlk hbl hm hmi
      generalize UInt8.ofNat (x / 2 ^ (8 * m)) = y at *
      go_wp2_with (at_builtin; refine push_u8 (W0 := w) rfl (.tmp 13) (.tmp 19) rfl (.slice VA j vc) ((be n x).take j) y rfl rfl HO.out HB.out (by rw [HK.out]; omega) ?_; intro A1 c1 w1 hO1 hB1; rw [HK.out] at hO1 ⊢; have HO1 := Lib.hid hO1; have HB1 := Lib.hid hB1; clear hO1 hB1)
      go_roundg (n - (j + 1))
      case measure => omega
      case rel =>
        refine ⟨j + 1, by omega, rfl, ?_, ?_, HB1.out⟩
        · have := HMI.out; congr 1; omega
        · rw [HX.out, HG.out]; exact HO1.out
    · obtain rfl : j = n := by omega
      have hneg : (j : Int) - 1 - j = -1 := by omega
      rw [hneg]
      go_wp2_with fail
      go_ret
      refine ⟨_, rfl, ?_, HB.out⟩
      have h := HO.out
      rw [List.take_of_length_le (by omega)] at h
      have e : (.slice VA j vc : Value) = .slice VA j vc := rfl
      exact h

/-- the number that bytes say, the highest first -/
def val (l : List UInt8) : Nat := l.foldl (fun x b => x * 256 + b.toNat) 0
theorem val_snoc (l : List UInt8) (b : UInt8) : val (l ++ [b]) = val l * 256 + b.toNat := by simp [val]
theorem val_aux (l : List UInt8) : ∀ x : Nat, l.foldl (fun x b => x * 256 + b.toNat) x < (x + 1) * 256 ^ l.length := by
  induction l with
  | nil => intro x; simp
  | cons b l ih =>
    intro x
    have h := ih (x * 256 + b.toNat)
    have hb := b.toNat_lt
    have h2 : (x * 256 + b.toNat + 1) * 256 ^ l.length ≤ ((x + 1) * 256) * 256 ^ l.length := Nat.mul_le_mul_right _ (by omega)
    simp only [List.foldl_cons, List.length_cons, Nat.pow_succ]
    have h3 : (x + 1) * (256 ^ l.length * 256) = ((x + 1) * 256) * 256 ^ l.length := by rw [Nat.mul_comm (256 ^ l.length) 256, Nat.mul_assoc]
    omega
theorem val_lt (l : List UInt8) : val l < 256 ^ l.length := by
  have := val_aux l 0
  simpa [val] using this
theorem val_small {l : List UInt8} {k : Nat} (h : l.length ≤ k) (hk : k ≤ 7) : val l < 72057594037927936 :=
  Nat.lt_of_lt_of_le (val_lt l) (Nat.le_trans (Nat.pow_le_pow_right (by omega) (show l.length ≤ 7 by omega)) (by decide))
theorem or_byte (v : Nat) (b : UInt8) (hv : v < 72057594037927936) : bits .or .u64 ((v : Int) * 256) ((b.toNat : Int)) = ((v * 256 + b.toNat : Nat) : Int) := by
  have hb := b.toNat_lt
  have h := bor_eq (a := v * 256) (b := b.toNat) (by unfold B64; omega) (by unfold B64; omega)
  have e : bor (v * 256) b.toNat = v * 256 + b.toNat := by
    unfold bor
    have := Nat.shiftLeft_add_eq_or_of_lt (i := 8) (b := b.toNat) (by omega) v
    rw [Nat.shiftLeft_eq] at this
    simpa using this.symm
  rw [e] at h
  simpa using h
def rdAt (l : List UInt8) (at_ n : Nat) : Nat := if l.length < at_ + n then 0 else val ((l.drop at_).take n)

set_option maxRecDepth 100000 in
theorem read (A : Option Addr) (c : Nat) (l : List UInt8) (a n : Nat) (w : World) (ha : Bs w A c l) (han : a ≤ 64) (hn : n ≤ 8) :
    Calls Tryz.prog 86 #[.slice A l.length c, .int .i64 (a : Int), .int .i64 (n : Int)] w fun e w' => e = .returned (.int .u64 (rdAt l a n : Int)) ∧ w = w' := by
  have HA := Lib.hid ha
  have h1 := ha.max
  clear ha
  obtain ⟨t, ht⟩ : ∃ t, rdAt l a n = t := ⟨_, rfl⟩
  rw [ht]
  unfold rdAt at ht
  by_cases hlen : l.length < a + n
  · have hl2 : (l.length : Int) < a + n := by omega
    rw [if_pos hlen] at ht
    subst ht
    clear hlen
    go_enter Tryz.func86, Tryz.ntmps86
    go_wp2_with fail
    go_ret
    exact ⟨rfl, rfl⟩
  · have hl2 : ¬ (l.length : Int) < a + n := by omega
    rw [if_neg hlen] at ht
    have HT := Lib.hid ht
    clear ht
    go_enter Tryz.func86, Tryz.ntmps86
    go_wp2_with fail
    go_loop [7, 8] (fun x i => ∃ k : Nat, k ≤ n ∧ i = .int .i64 (k : Int) ∧ ∃ v : Nat, x = .int .u64 (v : Int) ∧ Hid (val ((l.drop a).take k) = v)) (fun _ i => n - (intOf i).toNat)
    case atStart => exact ⟨0, by omega, rfl, 0, rfl, rfl⟩
    case round =>
      obtain ⟨k, hk, rfl, v, rfl, HV⟩ := hrel
      by_cases hlt : k < n
      · obtain ⟨ad, e1, _, c1⟩ := HA.out.at_ (a + k) (by omega)
        subst e1
        have hlt2 : (k : Int) < n := by omega
        have hdl : k < (l.drop a).length := by rw [List.length_drop]; omega
        have hg : (l.drop a).getD k 0 = l.getD (a + k) 0 := by simp
        have hs := take_snoc8 hdl
        rw [hg] at hs
        have hvlt : v < 256 ^ k := by
          have := val_lt ((l.drop a).take k)
          rw [HV.out, List.length_take] at this
          rwa [Nat.min_eq_left (by omega)] at this
        have hv2 : v < 72057594037927936 := Nat.lt_of_lt_of_le hvlt (Nat.le_trans (Nat.pow_le_pow_right (by omega) (show k ≤ 7 by omega)) (by decide))
        have HN : Hid (val ((l.drop a).take (k + 1)) = v * 256 + (l.getD (a + k) 0).toNat) := by rw [Hid, hs, val_snoc, HV.out]
        clear hs hg hdl hvlt
        generalize l.getD (a + k) 0 = b at *
        have hb := b.toNat_lt
        have hor := or_byte v b hv2
        go_wp2_with fail
        go_round
        case rel =>
          exact ⟨k + 1, by omega, by go_num, v * 256 + b.toNat, by push_cast; rfl, HN⟩
        case measure => simp [intOf]; omega
      · have hlt2 : ¬ (k : Int) < n := by omega
        obtain rfl : k = n := by omega
        have HF : Hid (v = t) := by rw [Hid, ← HV.out]; exact HT.out
        go_wp2_with fail
        go_ret
        have h := HF.out
        subst h
        exact ⟨rfl, rfl⟩
end Go.Proofs.YtafdhccdjbfepaaGreat.Help
/- The walks of stamps: Valid, Put, Get of package stamp and of culvertref6. -/
namespace Go.Proofs.YtafdhccdjbfepaaGreat.Help
open Go.RowKit Go.Proofs.YtafdhccdjbfepaaGreat.K
set_option linter.unusedVariables false

def stV (sec nano : Int) : Bool := decide (0 ≤ sec) && (decide (0 ≤ nano) && decide (nano ≤ 999999999))
theorem stV_cases (sec nano : Int) : (sec < 0 ∧ stV sec nano = false) ∨ (0 ≤ sec ∧ nano < 0 ∧ stV sec nano = false) ∨ (0 ≤ sec ∧ 0 ≤ nano ∧ ¬ nano ≤ 999999999 ∧ stV sec nano = false) ∨ (0 ≤ sec ∧ 0 ≤ nano ∧ nano ≤ 999999999 ∧ stV sec nano = true) := by
  unfold stV
  by_cases h1 : 0 ≤ sec
  · by_cases h2 : 0 ≤ nano
    · by_cases h3 : nano ≤ 999999999
      · exact .inr (.inr (.inr ⟨h1, h2, h3, by simp [h1, h2, h3]⟩))
      · exact .inr (.inr (.inl ⟨h1, h2, h3, by simp [h3]⟩))
    · exact .inr (.inl ⟨h1, by omega, by simp [h2]⟩)
  · exact .inl ⟨by omega, by simp [h1]⟩

theorem stampValid (sec nano : Int) (w : World) (h1 : sec ≤ 9223372036854775807) :
    Calls Tryz.prog 35 #[.agg #[.int .i64 sec, .int .i64 nano]] w (Pure w (.bool (stV sec nano))) := by
  rcases stV_cases sec nano with ⟨e1, e⟩ | ⟨e1, e2, e⟩ | ⟨e1, e2, e3, e⟩ | ⟨e1, e2, e3, e⟩
  all_goals
    rw [e]
    clear e
    go_enter Tryz.func35, Tryz.ntmps35
    go_wp2_with fail
    go_ret
    exact ⟨rfl, (Below.refl _ _).alloc (Nat.le_refl _) _⟩
theorem refValid (sec nano : Int) (w : World) :
    Calls Tryz.prog 110 #[.agg #[.int .i64 sec, .int .i64 nano]] w (Pure w (.bool (stV sec nano))) := by
  rcases stV_cases sec nano with ⟨e1, e⟩ | ⟨e1, e2, e⟩ | ⟨e1, e2, e3, e⟩ | ⟨e1, e2, e3, e⟩
  all_goals
    rw [e]
    clear e
    go_enter Tryz.func110, Tryz.ntmps110
    go_wp2_with fail
    go_ret
    exact ⟨rfl, (Below.refl _ _).alloc (Nat.le_refl _) _⟩

/-- old cells read as before behind a call that leaves old memory -/
theorem bcell {W w1 : World} (hb : Below W.heap.size W w1) : (∀ b o, b < W.heap.size → w1.cell? ⟨b, o, none⟩ = W.cell? ⟨b, o, none⟩) ∧ (∀ b o, b < W.heap.size → w1.frozen? ⟨b, o, none⟩ = W.frozen? ⟨b, o, none⟩) :=
  ⟨fun b o h => hb.cell (p := ⟨b, o, none⟩) h, fun b o h => hb.frozen (p := ⟨b, o, none⟩) h⟩
def stPut (sec nano : Nat) : List UInt8 := be 8 sec ++ be 4 nano

/-- stamp.Put's memory: the stamp in a block, twelve bytes in another -/
structure StS (w w1 wr : World) (sec nano : Nat) (l : List UInt8) : Prop where
  s : wr.heap[w.heap.size]? = some (.cells #[.int .i64 (sec : Int), .int .i64 (nano : Int)] 41 (0, 0))
  b : BlkT wr 131 w1.heap.size l
  below : Below w.heap.size w wr
  hz : w.heap.size ≤ w1.heap.size
theorem StS.c0 {w w1 wr : World} {sec nano : Nat} {l : List UInt8} (h : StS w w1 wr sec nano l) : wr.cell? ⟨w.heap.size, 0, none⟩ = some (.int .i64 (sec : Int)) := (blk_cell h.s 0).trans rfl
theorem StS.c1 {w w1 wr : World} {sec nano : Nat} {l : List UInt8} (h : StS w w1 wr sec nano l) : wr.cell? ⟨w.heap.size, 1, none⟩ = some (.int .i64 (nano : Int)) := (blk_cell h.s 1).trans rfl
theorem StS.set {w w1 wr : World} {sec nano : Nat} {l : List UInt8} (h : StS w w1 wr sec nano l) (j : Nat) (x : UInt8) : StS w w1 (wr.setCell ⟨w1.heap.size, j, none⟩ (.int .u8 (x.toNat : Int))) sec nano (l.set j x) := by
  have hne : w.heap.size ≠ w1.heap.size := blk_ne h.s h.b (by decide)
  exact ⟨blk_far h.s hne _, h.b.set j x, h.below.setCell (p := ⟨w1.heap.size, j, none⟩) h.hz _, h.hz⟩

set_option maxRecDepth 100000 in
theorem stampPut_yes (sec nano : Nat) (w : World) (h1 : sec ≤ 9223372036854775807) (h2 : nano ≤ 999999999) :
    Calls Tryz.prog 37 #[.agg #[.int .i64 (sec : Int), .int .i64 (nano : Int)]] w (Ret w (stPut sec nano)) := by
  have hv : stV sec nano = true := by unfold stV; simp; omega
  have HV := Lib.hid (fun w => stampValid sec nano w (by omega))
  rw [hv] at HV
  clear hv
  go_enter Tryz.func37, Tryz.ntmps37
  go_wp2_with fail
  refine (HV.out _).mono ?_
  rintro e w1 ⟨rfl, hb⟩
  have hz : w.heap.size + 1 ≤ w1.heap.size := by have := hb.size; simpa using this
  have HB0 : Hid (Below w.heap.size w w1) := below_step ((Below.refl w.heap.size w).alloc (Nat.le_refl _) (.cells #[.int .i64 (sec : Int), .int .i64 (nano : Int)] 41)) hb
  have HB1 := Lib.hid hb
  clear hb
  go_wp2_with fail
  go_loopg [10] 8 (fun gk i wr => ∃ j : Nat, j ≤ 8 ∧ gk = 8 - j ∧ i = .int .i64 (j : Int) ∧ StS w w1 wr sec nano (List.replicate (8 - j) 0 ++ be j sec ++ List.replicate 4 0))
  case atStart =>
    refine ⟨0, by omega, rfl, rfl, ?_⟩
    exact ⟨(blk_alloc (HB1.out.block w.heap.size (by simp) |>.trans (blk_new w _)) _), blk_new w1 _, below_alloc HB0.out _, by omega⟩
  case round =>
    obtain ⟨j, hj, rfl, rfl, hS⟩ := hrel
    have HS := Lib.hid hS
    have c0 := hS.c0
    have c1 := hS.c1
    clear hS
    by_cases hlt : j < 8
    · have hlt2 : (j : Int) < 8 := by omega
      have hln : (List.replicate (8 - j) 0 ++ be j sec ++ List.replicate 4 0).length = 12 := by simp [be_len]; omega
      have d0 := HS.out.b.cell (7 - j) (by rw [hln]; omega)
      have d1 := HS.out.b.free (7 - j)
      have hw := kind8 sec j
      have HST := Lib.hid (be_step2 (List.replicate 4 0) 8 j sec hlt)
      have HSET := Lib.hid (HS.out.set (7 - j) (UInt8.ofNat (sec / 2 ^ (8 * j))))
      clear hln
      generalize UInt8.ofNat (sec / 2 ^ (8 * j)) = y at hw HST HSET
      generalize (List.replicate (8 - j) 0 ++ be j sec ++ List.replicate 4 0).getD (7 - j) 0 = z at d0
      go_wp2_with fail
      go_roundg (8 - (j + 1))
      case measure => omega
      case rel =>
        refine ⟨j + 1, by omega, rfl, by go_num, ?_⟩
        rw [← HST.out]
        exact HSET.out
    · obtain rfl : j = 8 := by omega
      have h8 : StS w w1 wr sec nano (be 8 sec ++ List.replicate 4 0) := by simpa using HS.out
      have HS8 := Lib.hid h8
      clear h8
      clear HS hlt
      go_wp2_with fail
      go_loopg [23] 4 (fun gk i wr => ∃ j : Nat, j ≤ 4 ∧ gk = 4 - j ∧ i = .int .i64 (j : Int) ∧ StS w w1 wr sec nano (be 8 sec ++ List.replicate (4 - j) 0 ++ be j nano))
      case atStart => exact ⟨0, by omega, rfl, rfl, by simpa [be] using HS8.out⟩
      case round =>
        obtain ⟨j, hj, rfl, rfl, hS⟩ := hrel
        have HS := Lib.hid hS
        have c0 := hS.c0
        have c1 := hS.c1
        clear hS
        by_cases hlt : j < 4
        · have hlt2 : (j : Int) < 4 := by omega
          have hln : (be 8 sec ++ List.replicate (4 - j) 0 ++ be j nano).length = 12 := by simp [be_len]; omega
          have d0 := HS.out.b.cell (11 - j) (by rw [hln]; omega)
          have d1 := HS.out.b.free (11 - j)
          have hw := kind8 nano j
          have hst := be_step (be 8 sec) 4 j nano hlt
          rw [show (be 8 sec).length + 4 - 1 - j = 11 - j by simp [be_len]] at hst
          have HST := Lib.hid hst
          have HSET := Lib.hid (HS.out.set (11 - j) (UInt8.ofNat (nano / 2 ^ (8 * j))))
          clear hln hst
          generalize UInt8.ofNat (nano / 2 ^ (8 * j)) = y at hw HST HSET
          generalize (be 8 sec ++ List.replicate (4 - j) 0 ++ be j nano).getD (11 - j) 0 = z at d0
          go_wp2_with fail
          go_roundg (4 - (j + 1))
          case measure => omega
          case rel =>
            refine ⟨j + 1, by omega, rfl, by go_num, ?_⟩
            rw [← HST.out]
            exact HSET.out
        · obtain rfl : j = 4 := by omega
          have h12 : StS w w1 wr sec nano (stPut sec nano) := by simpa [stPut] using HS.out
          have HS12 := Lib.hid h12
          clear h12
          have hmk : ∀ W : World, (Instr.makeSlice 33 (.int .i64 12) (.int .i64 12)).run Tryz.prog W = .ok (.slice (some ⟨W.heap.size, 0, none⟩) 12 12) (W.alloc (.cells (u8s (zs 12)).toArray 5)) := fun W => make_u8 12 (by omega) W
          have hlp : (stPut sec nano).length = 12 := by simp [stPut, be_len]
          have hsrc := HS12.out.b.bs (by omega)
          rw [hlp] at hsrc
          have hL := blk_made wr 12
          obtain ⟨w3, hcopy, hb3, ho3⟩ := copy_u8 (n := 12) (dc := 12) (o := 0) hL (hsrc.below ((Below.refl _ _).alloc (Nat.le_refl _) _)) (by simp) 3
          rw [hlp] at hcopy hb3
          have HB3 : Hid (Own w3 w.heap.size (.slice (some ⟨wr.heap.size, 0, none⟩) 12 12) (stPut sec nano) ∧ Below w.heap.size w w3) := by
            have hm : Nat.min 12 12 = 12 := rfl
            rw [hm, List.take_of_length_le (l := stPut sec nano) (by omega)] at hb3
            simp only [List.take_zero, List.nil_append, Nat.zero_add, List.drop_replicate, Nat.sub_self, List.replicate_zero, List.append_nil] at hb3
            have hwz : w.heap.size ≤ wr.heap.size := HS12.out.below.size
            have h2 := hb3.own (base := w.heap.size) hwz (by omega)
            rw [hlp] at h2
            exact ⟨h2, below_only (below_alloc HS12.out.below _) ho3 (fun i hi => by rw [hi]; exact hwz)⟩
          clear HS hL hb3 ho3 hsrc hlp hlt
          go_wp2_with fail
          go_ret
          exact ⟨_, rfl, HB3.out.1, HB3.out.2⟩
end Go.Proofs.YtafdhccdjbfepaaGreat.Help
/- The walks of bits.Reader: NewReader, take, Bytes, Left, Get. -/
namespace Go.Proofs.YtafdhccdjbfepaaGreat.Help
open Go.RowKit Go.Proofs.YtafdhccdjbfepaaGreat.K
set_option linter.unusedVariables false

/-- a reader at block g over a copy of L at block rb -/
structure Rdr (w : World) (g rb : Nat) (L : List UInt8) (p : Nat) (err : Int) : Prop where
  b : w.heap[g]? = some (.cells #[.slice (some ⟨rb, 0, none⟩) L.length L.length, .int .i64 (p : Int), .int .i64 err] 135 (0, 0))
  r : Blk w rb L
  le : p ≤ L.length
  max : L.length ≤ 140737488355328
section
variable {w w' : World} {g rb p : Nat} {L : List UInt8} {err : Int}
theorem Rdr.c0 (h : Rdr w g rb L p err) : w.cell? ⟨g, 0, none⟩ = some (.slice (some ⟨rb, 0, none⟩) L.length L.length) := (blk_cell h.b 0).trans rfl
theorem Rdr.c1 (h : Rdr w g rb L p err) : w.cell? ⟨g, 1, none⟩ = some (.int .i64 (p : Int)) := (blk_cell h.b 1).trans rfl
theorem Rdr.c2 (h : Rdr w g rb L p err) : w.cell? ⟨g, 2, none⟩ = some (.int .i64 err) := (blk_cell h.b 2).trans rfl
theorem Rdr.f (h : Rdr w g rb L p err) (j : Nat) : w.frozen? ⟨g, j, none⟩ = false := blk_free h.b j
theorem Rdr.ne (h : Rdr w g rb L p err) : g ≠ rb := blk_ne h.b h.r (by decide)
theorem Rdr.only {T : Nat → Prop} (h : Rdr w g rb L p err) (k : Only w w' T) (h1 : ¬ T g) (h2 : ¬ T rb) : Rdr w' g rb L p err := ⟨k.blk h.b h1, h.r.only k h2, h.le, h.max⟩
theorem Rdr.below (h : Rdr w g rb L p err) (hb : Below w.heap.size w w') : Rdr w' g rb L p err := ⟨(hb.block g (blk_lt h.b)).trans h.b, (hb.block rb (blk_lt h.r)).trans h.r, h.le, h.max⟩
theorem Rdr.drewN (h : Rdr w g rb L p err) (n : Nat) : Rdr (w.drewN n) g rb L p err := ⟨h.b, h.r, h.le, h.max⟩
theorem Rdr.setErr (h : Rdr w g rb L p err) (e : Int) : Rdr (w.setCell ⟨g, 2, none⟩ (.int .i64 e)) g rb L p e :=
  ⟨by have := blk_set h.b 2 (.int .i64 e); simpa using this, blk_far h.r h.ne.symm _, h.le, h.max⟩
theorem Rdr.setAt (h : Rdr w g rb L p err) (q : Nat) (hq : q ≤ L.length) : Rdr (w.setCell ⟨g, 1, none⟩ (.int .i64 (q : Int))) g rb L q err :=
  ⟨by have := blk_set h.b 1 (.int .i64 (q : Int)); simpa using this, blk_far h.r h.ne.symm _, hq, h.max⟩
end
/-- what NewReader answers -/
def NewR (w : World) (L : List UInt8) (e : Ending) (w' : World) : Prop :=
  ∃ g rb, e = .returned (.pointer (some ⟨g, 0, none⟩)) ∧ Rdr w' g rb L 0 0 ∧ Below w.heap.size w w' ∧ w.heap.size ≤ g ∧ w.heap.size ≤ rb
set_option maxRecDepth 100000 in
theorem newReader (A : Option Addr) (c : Nat) (l : List UInt8) (w : World) (ha : Bs w A c l) :
    Calls Tryz.prog 80 #[.slice A l.length c] w (NewR w l) := by
  have hm := ha.max
  have hmk := fun W => make_u8 l.length hm W
  have h1 : Blk ((w.alloc (.cells (u8s (zs l.length)).toArray 5)).alloc (.cells #[.slice (some ⟨w.heap.size, 0, none⟩) l.length l.length, .int .i64 0, .int .i64 0] 135)) w.heap.size (List.replicate l.length 0) := blk_alloc (blk_made w l.length) _
  have hb2 : Below w.heap.size w ((w.alloc (.cells (u8s (zs l.length)).toArray 5)).alloc (.cells #[.slice (some ⟨w.heap.size, 0, none⟩) l.length l.length, .int .i64 0, .int .i64 0] 135)) := below_alloc (below_alloc (Below.refl _ _) _) _
  obtain ⟨w2, hcopy, hb3, ho3⟩ := copy_u8 (n := l.length) (dc := l.length) (o := 0) h1 (ha.below hb2) (by simp) 3
  have hg : ((w.alloc (.cells (u8s (zs l.length)).toArray 5)).alloc (.cells #[.slice (some ⟨w.heap.size, 0, none⟩) l.length l.length, .int .i64 0, .int .i64 0] 135)).heap[w.heap.size + 1]? = some (.cells #[.slice (some ⟨w.heap.size, 0, none⟩) l.length l.length, .int .i64 0, .int .i64 0] 135 (0, 0)) := by
    have := blk_new (w.alloc (.cells (u8s (zs l.length)).toArray 5)) (.cells #[.slice (some ⟨w.heap.size, 0, none⟩) l.length l.length, .int .i64 0, .int .i64 0] 135)
    simpa using this
  have HF : Hid (NewR w l (.returned (.pointer (some ⟨w.heap.size + 1, 0, none⟩))) w2) := by
    have hmin : Nat.min l.length l.length = l.length := Nat.min_self _
    rw [hmin, List.take_of_length_le (l := l) (by omega)] at hb3
    simp only [List.take_zero, List.nil_append, Nat.zero_add, List.drop_replicate, Nat.sub_self, List.replicate_zero, List.append_nil] at hb3
    exact ⟨w.heap.size + 1, w.heap.size, rfl, ⟨ho3.blk hg (by omega), hb3, by omega, hm⟩, below_only hb2 ho3 (fun i hi => by rw [hi]; exact Nat.le_refl _), by omega, by omega⟩
  clear ha h1 hb2 hb3 ho3 hg
  go_enter Tryz.func80, Tryz.ntmps80
  go_wp2_with fail
  go_ret
  exact HF.out

/-- what is left of a reader's bytes -/
def cutN (L : List UInt8) (p n : Nat) : List UInt8 := (L.drop p).take n
/-- what take does to a reader: bytes, ok, the place and the error behind -/
def takes (L : List UInt8) (p n : Nat) (err : Int) : List UInt8 × Bool × Nat × Int :=
  if err ≠ 0 then ([], false, p, err) else if L.length - p < n then ([], false, p, 10) else (cutN L p n, true, p + n, 0)
/-- the address lies in this block -/
def At (A : Option Addr) (b : Nat) : Prop := ∀ ad, A = some ad → ad.block = b
/-- the address lies in new memory -/
def Nw (w : World) (A : Option Addr) : Prop := ∀ ad, A = some ad → w.heap.size ≤ ad.block
theorem Nw.none (w : World) : Nw w none := fun _ h => by cases h
theorem Nw.back {w w' : World} {A : Option Addr} (h : Nw w' A) (hb : w.heap.size ≤ w'.heap.size) : Nw w A := fun ad e => Nat.le_trans hb (h ad e)
theorem At.nw {w : World} {A : Option Addr} {b : Nat} (h : At A b) (hb : w.heap.size ≤ b) : Nw w A := fun ad e => by rw [h ad e]; exact hb
theorem Own.nw {w w' : World} {A : Option Addr} {n c : Nat} {l : List UInt8} {base : Nat} (h : Own w' base (.slice A n c) l) (hb : w.heap.size ≤ base) : Nw w A := fun ad e => by
  subst e
  rcases h.1.2 with ⟨h1, _⟩ | ⟨g, cap, cur, h1, h2, _⟩
  · cases h1
  · injection h1 with h1; injection h1 with h1; subst h1; exact Nat.le_trans hb h2
def Took (w : World) (g rb : Nat) (L : List UInt8) (t : List UInt8 × Bool × Nat × Int) (e : Ending) (w' : World) : Prop :=
  ∃ A c, e = .returned (.tuple #[.slice A t.1.length c, .bool t.2.1]) ∧ Bs w' A c t.1 ∧ Rdr w' g rb L t.2.2.1 t.2.2.2 ∧ Only w w' (fun k => k = g) ∧ At A rb
theorem cut_bs {w : World} {rb p n : Nat} {L : List UInt8} (h : Blk w rb L) (hm : L.length ≤ 140737488355328) (hn : p + n ≤ L.length) : Bs w (if p + n = p then some ⟨rb, 0, none⟩ else some ⟨rb, p, none⟩) n (cutN L p n) := by
  have hl : (cutN L p n).length = n := by unfold cutN; rw [List.length_take, List.length_drop]; omega
  refine ⟨by omega, by omega, fun i hi => ?_⟩
  rw [hl] at hi
  rw [if_neg (by omega)]
  refine ⟨_, rfl, blk_lt h, ?_⟩
  have e : (⟨rb, p, none⟩ : Addr).add i = ⟨rb, p + i, none⟩ := by unfold Addr.add; split <;> simp_all
  rw [e, h.cell (p + i) (by omega)]
  unfold cutN
  congr 3
  simp only [List.getD_eq_getElem?_getD, List.getElem?_take, hi, if_true, List.getElem?_drop]
theorem run_cut {rb p n : Nat} {L : List UInt8} (hn : p + n ≤ L.length) (W : World) :
    (Instr.slice 33 (.slice (some ⟨rb, 0, none⟩) L.length L.length) (some (.int .i64 (p : Int))) (some (.int .i64 ((p : Int) + n))) (some (.int .i64 ((p : Int) + n)))).run Tryz.prog W = .ok (.slice (if p + n = p then some ⟨rb, 0, none⟩ else some ⟨rb, p, none⟩) n n) W := by
  have hel : Tryz.prog.elem 33 = 5 := by kernel_rfl
  have hu : Tryz.prog.underlying 33 = some (.slice (Tryz.prog.elem 33)) := by rw [hel]; exact Tryz.underlying33
  have hs : Tryz.prog.cellsOf 5 = 1 := by kernel_rfl
  have h1 : (0 : Int) ≤ (p : Int) + n ∧ (p : Int) + n ≤ (L.length : Int) := by omega
  have h2 : (0 : Int) ≤ (p : Int) ∧ (p : Int) ≤ (((p : Int) + n).toNat : Int) := by omega
  have e1 : ((p : Int) + n).toNat = p + n := by omega
  rw [run_slice_any (P := Tryz.prog) (ht := hu)]
  have hb : (Instr.sliceBounds true L.length L.length (some (.int .i64 (p : Int))) (some (.int .i64 ((p : Int) + n))) (some (.int .i64 ((p : Int) + n)))).run Tryz.prog W = .ok (p, p + n, p + n) W := by
    have b1 : (Instr.sliceBound (.int .i64 ((p : Int) + n)) L.length .slice3Acap).run Tryz.prog W = .ok (p + n) W := by rw [run_sliceBound (h0 := h1.1) (h1 := h1.2), e1]
    have b2 : (Instr.sliceBound (.int .i64 ((p : Int) + n)) (p + n) .slice3B).run Tryz.prog W = .ok (p + n) W := by rw [run_sliceBound (h0 := h1.1) (h1 := by omega), e1]
    have b3 : (Instr.sliceBound (.int .i64 (p : Int)) (p + n) .slice3C).run Tryz.prog W = .ok p W := by rw [run_sliceBound (h0 := by omega) (h1 := by omega)]; simp
    simp [Instr.sliceBounds, b1, b2, b3]
  rw [hb, hel]
  have hsz : (sizeOf 5).run Tryz.prog W = .ok 1 W := by kernel_rfl
  simp only [Result.andThen, hsz, sliced]
  have en : p + n - p = n := by omega
  rw [en]
  by_cases h0 : n = 0
  · simp [h0]
  · rw [if_neg (by omega), if_neg (by omega)]
    have ea : (⟨rb, 0, none⟩ : Addr).add (p * 1) = ⟨rb, p, none⟩ := by rw [Nat.mul_one, addr_add_plain]
    rw [Option.map_some, ea]

theorem cutN_len {L : List UInt8} {p n : Nat} (h : p + n ≤ L.length) : (cutN L p n).length = n := by unfold cutN; rw [List.length_take, List.length_drop]; omega
theorem takes_cases (L : List UInt8) (p n : Nat) (err : Int) (hp : p ≤ L.length) : ((err == 0) = false ∧ (err != 0) = true ∧ takes L p n err = ([], false, p, err)) ∨ (err = 0 ∧ L.length - p < n ∧ takes L p n err = ([], false, p, 10)) ∨ (err = 0 ∧ p + n ≤ L.length ∧ takes L p n err = (cutN L p n, true, p + n, 0)) := by
  unfold takes
  by_cases h : err = 0
  · subst h
    by_cases h2 : L.length - p < n
    · exact .inr (.inl ⟨rfl, h2, by simp [h2]⟩)
    · exact .inr (.inr ⟨rfl, by omega, by simp [h2]⟩)
  · exact .inl ⟨by simp [h], by simp [h], by simp [h]⟩
set_option maxRecDepth 100000 in
theorem take (g rb p n : Nat) (L : List UInt8) (err : Int) (w : World) (h : Rdr w g rb L p err) (hn : n ≤ 140737488355328) :
    Calls Tryz.prog 81 #[.pointer (some ⟨g, 0, none⟩), .int .i64 (n : Int)] w (Took w g rb L (takes L p n err)) := by
  have c0 := h.c0
  have c1 := h.c1
  have c2 := h.c2
  have hle := h.le
  have hmx := h.max
  have HR := Lib.hid h
  clear h
  rcases takes_cases L p n err hle with ⟨e1, e2, e⟩ | ⟨rfl, e2, e⟩ | ⟨rfl, e2, e⟩
  · rw [e]
    clear e
    go_enter Tryz.func81, Tryz.ntmps81
    go_wp2_with fail
    go_ret2
    exact ⟨none, 0, rfl, Bs.nil _ _ _, HR.out, Only.refl _ _, fun _ h => by cases h⟩
  · rw [e]
    have f2 := HR.out.f 2
    have e3 : (L.length : Int) - p < n := by omega
    clear e
    go_enter Tryz.func81, Tryz.ntmps81
    go_wp2_with fail
    go_quiet (fail)
    go_wp2_with fail
    go_ret2
    exact ⟨none, 0, rfl, Bs.nil _ _ _, (HR.out.drewN _).setErr 10, ((Only.refl w (fun k => k = g)).drewN _).setCell (p := ⟨g, 2, none⟩) (.inl rfl) _, fun _ h => by cases h⟩
  · rw [e]
    have f1 := HR.out.f 1
    have e3 : ¬ (L.length : Int) - p < n := by omega
    have hcut := run_cut (rb := rb) e2
    have HBS : Hid (∀ w', Only w w' (fun k => k = g) → Bs w' (if p + n = p then some ⟨rb, 0, none⟩ else some ⟨rb, p, none⟩) n (cutN L p n)) := fun w' ho => cut_bs (HR.out.r.only ho HR.out.ne.symm) hmx e2
    have hwr : IntKind.i64.wrap ((p : Int) + n) = (p : Int) + n := IntWalk.i64_in _ (by omega)
    have HLN := Lib.hid (cutN_len e2)
    have HAT : Hid (At (if p + n = p then (some ⟨rb, 0, none⟩ : Option Addr) else some ⟨rb, p, none⟩) rb) := by
      intro ad h
      split at h <;> cases h <;> rfl
    generalize (if p + n = p then (some ⟨rb, 0, none⟩ : Option Addr) else some ⟨rb, p, none⟩) = A at hcut HBS HAT
    have HQ : Hid (∀ q, Rdr ((w.drewN q).setCell ⟨g, 1, none⟩ (.int .i64 ((p : Int) + n))) g rb L (p + n) 0) := fun q => by have := (HR.out.drewN q).setAt (p + n) e2; push_cast at this; exact this
    have HO : Hid (∀ q, Only w ((w.drewN q).setCell ⟨g, 1, none⟩ (.int .i64 ((p : Int) + n))) (fun k => k = g)) := fun q => ((Only.refl w (fun k => k = g)).drewN q).setCell (p := ⟨g, 1, none⟩) (.inl rfl) _
    clear e
    go_enter Tryz.func81, Tryz.ntmps81
    go_wp2_with fail
    go_quiet (fail)
    go_wp2_with fail
    go_quiet (fail)
    go_wp2_with fail
    go_ret2
    exact ⟨A, n, by show _ = Ending.returned (.tuple #[.slice A (cutN L p n).length n, .bool true]); rw [HLN.out]; rfl, HBS.out _ (HO.out _), HQ.out _, HO.out _, HAT.out⟩

/-! Bytes, Left, Get: by take -/
def Left (L : List UInt8) (p : Nat) (err : Int) : Nat := if err ≠ 0 then 0 else L.length - p
set_option maxRecDepth 100000 in
theorem left (g rb p : Nat) (L : List UInt8) (err : Int) (w : World) (h : Rdr w g rb L p err) :
    Calls Tryz.prog 41 #[.pointer (some ⟨g, 0, none⟩)] w (Quiet (.int .i64 (Left L p err : Int)) w) := by
  have c0 := h.c0
  have c1 := h.c1
  have c2 := h.c2
  have hle := h.le
  have hmx := h.max
  clear h
  by_cases he : err = 0
  · subst he
    have HL : Hid ((Left L p 0 : Int) = L.length - p) := by unfold Left Hid; simp; omega
    go_enter Tryz.func41, Tryz.ntmps41
    go_wp2_with fail
    go_quiet (fail)
    go_wp2_with fail
    go_ret
    exact ⟨_, by rw [HL.out]; rfl, rfl⟩
  · have HL : Hid (Left L p err = 0) := by unfold Left Hid; simp [he]
    have e1 : (err != 0) = true := by simp [he]
    clear he
    go_enter Tryz.func41, Tryz.ntmps41
    go_wp2_with fail
    go_ret
    exact ⟨0, by rw [HL.out]; rfl, rfl⟩
def BytesR (w : World) (g rb : Nat) (L : List UInt8) (t : List UInt8 × Bool × Nat × Int) (e : Ending) (w' : World) : Prop :=
  ∃ A c, e = .returned (.slice A t.1.length c) ∧ Bs w' A c t.1 ∧ Rdr w' g rb L t.2.2.1 t.2.2.2 ∧ Only w w' (fun k => k = g) ∧ At A rb
set_option maxRecDepth 100000 in
theorem rbytes (g rb p n : Nat) (x : Int) (L : List UInt8) (err : Int) (w : World) (h : Rdr w g rb L p err) (hx : x = n) (hn : n ≤ 140737488355328) :
    Calls Tryz.prog 40 #[.pointer (some ⟨g, 0, none⟩), .int .i64 x] w (BytesR w g rb L (takes L p n err)) := by
  subst hx
  have T := Lib.hid (take g rb p n L err w h hn)
  clear h
  go_enter Tryz.func40, Tryz.ntmps40
  go_wp2_with fail
  refine T.out.mono ?_
  rintro e w1 ⟨A, c, rfl, hb, hr, ho, hat⟩
  have H := Lib.hid (And.intro hb (And.intro hr ho))
  have HAT := Lib.hid hat
  clear hb hr ho hat
  go_wp2_with fail
  go_ret
  exact ⟨A, c, rfl, H.out.1, H.out.2.1, H.out.2.2, HAT.out⟩
end Go.Proofs.YtafdhccdjbfepaaGreat.Help
/- The walks of bits.Get at each kind of number. -/
namespace Go.Proofs.YtafdhccdjbfepaaGreat.Help
open Go.RowKit Go.Proofs.YtafdhccdjbfepaaGreat.K
set_option linter.unusedVariables false
theorem take_int (g rb p n : Nat) (x : Int) (L : List UInt8) (err : Int) (w : World) (h : Rdr w g rb L p err) (hx : x = n) (hn : n ≤ 140737488355328) :
    Calls Tryz.prog 81 #[.pointer (some ⟨g, 0, none⟩), .int .i64 x] w (Took w g rb L (takes L p n err)) := by
  subst hx; exact take g rb p n L err w h hn
theorem takes_len (L : List UInt8) (p n : Nat) (err : Int) : (takes L p n err).1.length ≤ n ∧ ((takes L p n err).2.1 = false → (takes L p n err).1 = []) := by
  unfold takes
  split
  · exact ⟨by simp, fun _ => rfl⟩
  · split
    · exact ⟨by simp, fun _ => rfl⟩
    · exact ⟨by unfold cutN; rw [List.length_take]; omega, fun h => by cases h⟩
def GetR (w : World) (g rb : Nat) (L : List UInt8) (k : IntKind) (t : List UInt8 × Bool × Nat × Int) (e : Ending) (w' : World) : Prop :=
  e = .returned (.int k (val t.1 : Int)) ∧ Rdr w' g rb L t.2.2.1 t.2.2.2 ∧ Only w w' (fun k => k = g)
theorem val_pow {l : List UInt8} {k : Nat} (h : l.length ≤ k) : val l < 256 ^ k := Nat.lt_of_lt_of_le (val_lt l) (Nat.pow_le_pow_right (by omega) h)

set_option maxRecDepth 100000 in
theorem get_uint8 (g rb p : Nat) (L : List UInt8) (err : Int) (w : World) (h : Rdr w g rb L p err) :
    Calls Tryz.prog 42 #[.pointer (some ⟨g, 0, none⟩)] w (GetR w g rb L .u8 (takes L p 1 err)) := by
  have HR := Lib.hid h
  clear h
  have htl := takes_len L p 1 err
  have T := Lib.hid (fun x (hx : x = ((1 : Nat) : Int)) => take_int g rb p 1 x L err w HR.out hx (by omega))
  generalize takes L p 1 err = t at *
  obtain ⟨l, ok, q, er⟩ := t
  obtain ⟨hl1, hl2⟩ := htl
  simp only at hl1 hl2
  have HL2 := Lib.hid hl2
  clear hl2
  have hv := val_pow hl1
  go_enter Tryz.func42, Tryz.ntmps42
  go_wp2_with (go_at_call 82; refine (Bits.width_uint8 _).mono ?_; rintro e w' ⟨rfl, rfl⟩)
  refine (T.out _ (by rfl)).mono ?_
  rintro e w1 ⟨A, c, rfl, hb, hr, ho, -⟩
  have H := Lib.hid (And.intro hb (And.intro hr ho))
  clear hb hr ho
  cases ok
  · obtain rfl := HL2.out rfl
    go_wp2_with fail
    go_ret
    exact ⟨rfl, H.out.2.1, H.out.2.2⟩
  · clear HL2
    go_wp2_with fail
    go_loopg [5, 18] l.length (fun gk s i wr => ∃ k : Nat, k ≤ l.length ∧ gk = l.length - k ∧ i = .int .i64 (k : Int) ∧ wr = w1 ∧ s = .int .u64 (val (l.take k) : Int))
    case atStart => exact ⟨0, by omega, rfl, rfl, rfl, by simp [val]⟩
    case round =>
      obtain ⟨k, hk, rfl, rfl, rfl, rfl⟩ := hrel
      by_cases hlt : k < l.length
      · have hlt2 : (k : Int) < l.length := by omega
        obtain ⟨ad, e1, hadl, c1⟩ := H.out.1.at_ k hlt
        subst e1
        have hs := take_snoc8 hlt
        have hx := val_small (l := l.take k) (k := k) (by rw [List.length_take]; omega) (by omega)
        have hor := or_byte (val (l.take k)) (l.getD k 0) hx
        have HN : Hid (val (l.take (k + 1)) = val (l.take k) * 256 + (l.getD k 0).toNat) := by rw [Hid, hs, val_snoc]
        clear hs hadl
        have hb := (l.getD k 0).toNat_lt
        generalize l.getD k 0 = b at *
        generalize val (l.take k) = x at *
        go_wp2_with fail
        go_roundg (l.length - (k + 1))
        case measure => omega
        case rel =>
          refine ⟨k + 1, by omega, rfl, by go_num, rfl, ?_⟩
          rw [HN.out]; push_cast; rfl
      · obtain rfl : k = l.length := by omega
        have e2 : l.take l.length = l := List.take_of_length_le (Nat.le_refl _)
        rw [e2]
        have hw : IntKind.u8.wrap (val l : Int) = (val l : Int) := by
          rw [IntKind.wrap_u8]
          exact Int.emod_eq_of_lt (by omega) (by omega)
        have hv2 : val l < 256 := hv
        clear e2 hlt hv
        generalize hx : val l = x at *
        have HX := Lib.hid hx
        clear hx
        go_wp2_with fail
        go_ret
        exact ⟨by rw [HX.out]; rfl, H.out.2.1, H.out.2.2⟩

set_option maxRecDepth 100000 in
theorem get_uint32 (g rb p : Nat) (L : List UInt8) (err : Int) (w : World) (h : Rdr w g rb L p err) :
    Calls Tryz.prog 43 #[.pointer (some ⟨g, 0, none⟩)] w (GetR w g rb L .u32 (takes L p 4 err)) := by
  have HR := Lib.hid h
  clear h
  have htl := takes_len L p 4 err
  have T := Lib.hid (fun x (hx : x = ((4 : Nat) : Int)) => take_int g rb p 4 x L err w HR.out hx (by omega))
  generalize takes L p 4 err = t at *
  obtain ⟨l, ok, q, er⟩ := t
  obtain ⟨hl1, hl2⟩ := htl
  simp only at hl1 hl2
  have HL2 := Lib.hid hl2
  clear hl2
  have hv := val_pow hl1
  go_enter Tryz.func43, Tryz.ntmps43
  go_wp2_with (go_at_call 79; refine (Bits.width_uint32 _).mono ?_; rintro e w' ⟨rfl, rfl⟩)
  refine (T.out _ (by rfl)).mono ?_
  rintro e w1 ⟨A, c, rfl, hb, hr, ho, -⟩
  have H := Lib.hid (And.intro hb (And.intro hr ho))
  clear hb hr ho
  cases ok
  · obtain rfl := HL2.out rfl
    go_wp2_with fail
    go_ret
    exact ⟨rfl, H.out.2.1, H.out.2.2⟩
  · clear HL2
    go_wp2_with fail
    go_loopg [5, 18] l.length (fun gk s i wr => ∃ k : Nat, k ≤ l.length ∧ gk = l.length - k ∧ i = .int .i64 (k : Int) ∧ wr = w1 ∧ s = .int .u64 (val (l.take k) : Int))
    case atStart => exact ⟨0, by omega, rfl, rfl, rfl, by simp [val]⟩
    case round =>
      obtain ⟨k, hk, rfl, rfl, rfl, rfl⟩ := hrel
      by_cases hlt : k < l.length
      · have hlt2 : (k : Int) < l.length := by omega
        obtain ⟨ad, e1, hadl, c1⟩ := H.out.1.at_ k hlt
        subst e1
        have hs := take_snoc8 hlt
        have hx := val_small (l := l.take k) (k := k) (by rw [List.length_take]; omega) (by omega)
        have hor := or_byte (val (l.take k)) (l.getD k 0) hx
        have HN : Hid (val (l.take (k + 1)) = val (l.take k) * 256 + (l.getD k 0).toNat) := by rw [Hid, hs, val_snoc]
        clear hs hadl
        have hb := (l.getD k 0).toNat_lt
        generalize l.getD k 0 = b at *
        generalize val (l.take k) = x at *
        go_wp2_with fail
        go_roundg (l.length - (k + 1))
        case measure => omega
        case rel =>
          refine ⟨k + 1, by omega, rfl, by go_num, rfl, ?_⟩
          rw [HN.out]; push_cast; rfl
      · obtain rfl : k = l.length := by omega
        have e2 : l.take l.length = l := List.take_of_length_le (Nat.le_refl _)
        rw [e2]
        have hw : IntKind.u32.wrap (val l : Int) = (val l : Int) := by
          rw [IntKind.wrap_u32]
          exact Int.emod_eq_of_lt (by omega) (by omega)
        have hv2 : val l < 4294967296 := hv
        clear e2 hlt hv
        generalize hx : val l = x at *
        have HX := Lib.hid hx
        clear hx
        go_wp2_with fail
        go_ret
        exact ⟨by rw [HX.out]; rfl, H.out.2.1, H.out.2.2⟩

set_option maxRecDepth 100000 in
theorem get_uint64 (g rb p : Nat) (L : List UInt8) (err : Int) (w : World) (h : Rdr w g rb L p err) :
    Calls Tryz.prog 44 #[.pointer (some ⟨g, 0, none⟩)] w (GetR w g rb L .u64 (takes L p 8 err)) := by
  have HR := Lib.hid h
  clear h
  have htl := takes_len L p 8 err
  have T := Lib.hid (fun x (hx : x = ((8 : Nat) : Int)) => take_int g rb p 8 x L err w HR.out hx (by omega))
  generalize takes L p 8 err = t at *
  obtain ⟨l, ok, q, er⟩ := t
  obtain ⟨hl1, hl2⟩ := htl
  simp only at hl1 hl2
  have HL2 := Lib.hid hl2
  clear hl2
  have hv := val_pow hl1
  go_enter Tryz.func44, Tryz.ntmps44
  go_wp2_with (go_at_call 78; refine (Bits.width_uint64 _).mono ?_; rintro e w' ⟨rfl, rfl⟩)
  refine (T.out _ (by rfl)).mono ?_
  rintro e w1 ⟨A, c, rfl, hb, hr, ho, -⟩
  have H := Lib.hid (And.intro hb (And.intro hr ho))
  clear hb hr ho
  cases ok
  · obtain rfl := HL2.out rfl
    go_wp2_with fail
    go_ret
    exact ⟨rfl, H.out.2.1, H.out.2.2⟩
  · clear HL2
    go_wp2_with fail
    go_loopg [5, 18] l.length (fun gk s i wr => ∃ k : Nat, k ≤ l.length ∧ gk = l.length - k ∧ i = .int .i64 (k : Int) ∧ wr = w1 ∧ s = .int .u64 (val (l.take k) : Int))
    case atStart => exact ⟨0, by omega, rfl, rfl, rfl, by simp [val]⟩
    case round =>
      obtain ⟨k, hk, rfl, rfl, rfl, rfl⟩ := hrel
      by_cases hlt : k < l.length
      · have hlt2 : (k : Int) < l.length := by omega
        obtain ⟨ad, e1, hadl, c1⟩ := H.out.1.at_ k hlt
        subst e1
        have hs := take_snoc8 hlt
        have hx := val_small (l := l.take k) (k := k) (by rw [List.length_take]; omega) (by omega)
        have hor := or_byte (val (l.take k)) (l.getD k 0) hx
        have HN : Hid (val (l.take (k + 1)) = val (l.take k) * 256 + (l.getD k 0).toNat) := by rw [Hid, hs, val_snoc]
        clear hs hadl
        have hb := (l.getD k 0).toNat_lt
        generalize l.getD k 0 = b at *
        generalize val (l.take k) = x at *
        go_wp2_with fail
        go_roundg (l.length - (k + 1))
        case measure => omega
        case rel =>
          refine ⟨k + 1, by omega, rfl, by go_num, rfl, ?_⟩
          rw [HN.out]; push_cast; rfl
      · obtain rfl : k = l.length := by omega
        have e2 : l.take l.length = l := List.take_of_length_le (Nat.le_refl _)
        rw [e2]
        have hw : IntKind.u64.wrap (val l : Int) = (val l : Int) := by
          rw [IntKind.wrap_u64]
          exact Int.emod_eq_of_lt (by omega) (by omega)
        have hv2 : val l < 18446744073709551616 := hv
        clear e2 hlt hv
        generalize hx : val l = x at *
        have HX := Lib.hid hx
        clear hx
        go_wp2_with fail
        go_ret
        exact ⟨by rw [HX.out]; rfl, H.out.2.1, H.out.2.2⟩
end Go.Proofs.YtafdhccdjbfepaaGreat.Help
/- The walk of bytes.Equal. -/
namespace Go.Proofs.YtafdhccdjbfepaaGreat.Help
open Go.RowKit Go.Proofs.YtafdhccdjbfepaaGreat.K
set_option linter.unusedVariables false

theorem u_slice8 : Tryz.prog.underlying 33 = some (.slice 5) := by kernel_rfl
theorem u_u8 : Tryz.prog.underlying 5 = some (.int .u8) := by kernel_rfl
theorem u_str : Tryz.prog.underlying 9 = some .string := by kernel_rfl
/-- string(b) -/
theorem str_of (A : Option Addr) (c : Nat) (l : List UInt8) (w : World) (h : Bs w A c l) :
    (convert 33 9 (.slice A l.length c)).run Tryz.prog w = .ok (.string ⟨l.toArray⟩) w := by
  rcases A with _ | ad
  · have h0 : l = [] := by
      rcases l with _ | ⟨x, r⟩
      · rfl
      · obtain ⟨ad, h', _⟩ := h.at_ 0 (by simp)
        cases h'
    subst h0
    exact run_convert_bytes_nil w 33 5 u_slice8 u_u8 _ c 9 u_str
  · refine run_convert_bytes_back w 33 9 5 ad c l u_slice8 u_u8 u_str (fun j hj => ?_)
    obtain ⟨ad', e, _, hc⟩ := h.at_ j hj
    cases e
    simpa [hj] using hc
set_option maxRecDepth 100000 in
theorem bytesEqual (A B : Option Addr) (c d : Nat) (l m : List UInt8) (w : World) (ha : Bs w A c l) (hb : Bs w B d m) :
    Calls Tryz.prog 71 #[.slice A l.length c, .slice B m.length d] w (Quiet (.bool (decide (l = m))) w) := by
  have HA := str_of A c l w ha
  have HB := str_of B d m w hb
  clear ha hb
  generalize l.length = n1 at *
  generalize m.length = n2 at *
  go_enter Tryz.func71, Tryz.ntmps71
  go_wp2_with fail
  go_ret
  have e : (l == m) = decide (l = m) := by
    by_cases h : l = m <;> simp [h]
  exact ⟨0, by rw [← e]; rfl, rfl⟩
end Go.Proofs.YtafdhccdjbfepaaGreat.Help
/- The walks of stamps, the rest: culvertref6.Put; both Gets. -/
namespace Go.Proofs.YtafdhccdjbfepaaGreat.Help
open Go.RowKit Go.Proofs.YtafdhccdjbfepaaGreat.K
set_option linter.unusedVariables false

theorem stPut_len (sec nano : Nat) : (stPut sec nano).length = 12 := by simp [stPut, be_len]
theorem stPut_a (sec nano j : Nat) (h : j < 8) : (stPut sec nano).getD j 0 = UInt8.ofNat (sec / 2 ^ (56 - 8 * j)) := by
  unfold stPut
  have h1 := be_get 8 sec j h
  rw [List.getD_eq_getElem?_getD] at h1 ⊢
  rw [List.getElem?_append_left (by rw [be_len]; exact h), h1, show 8 * (8 - 1 - j) = 56 - 8 * j by omega]
theorem stPut_b (sec nano j : Nat) (h : j < 4) : (stPut sec nano).getD (8 + j) 0 = UInt8.ofNat (nano / 2 ^ (24 - 8 * j)) := by
  unfold stPut
  have h1 := be_get 4 nano j h
  rw [List.getD_eq_getElem?_getD] at h1 ⊢
  rw [List.getElem?_append_right (by rw [be_len]; omega), be_len, show 8 + j - 8 = j by omega, h1, show 8 * (4 - 1 - j) = 24 - 8 * j by omega]
theorem kind8_a (x j : Nat) (h : j < 8) : IntKind.u8.wrap ((x : Int) / 2 ^ (56 - 8 * j)) = ((UInt8.ofNat (x / 2 ^ (56 - 8 * j))).toNat : Int) := by
  have := kind8 x (7 - j)
  rwa [show 8 * (7 - j) = 56 - 8 * j by omega] at this
theorem kind8_b (x j : Nat) (h : j < 4) : IntKind.u8.wrap ((x : Int) / 2 ^ (24 - 8 * j)) = ((UInt8.ofNat (x / 2 ^ (24 - 8 * j))).toNat : Int) := by
  have := kind8 x (3 - j)
  rwa [show 8 * (3 - j) = 24 - 8 * j by omega] at this

/-- the document's Put: the stamp in a block, the bytes so far -/
structure StR (w wr : World) (sec nano : Nat) (v : Value) (l : List UInt8) : Prop where
  s : wr.heap[w.heap.size]? = some (.cells #[.int .i64 (sec : Int), .int .i64 (nano : Int)] 41 (0, 0))
  o : Own wr (w.heap.size + 1) v l
  below : Below (w.heap.size + 1) (w.alloc (.cells #[.int .i64 (sec : Int), .int .i64 (nano : Int)] 41)) wr
theorem StR.c0 {w wr : World} {sec nano : Nat} {v : Value} {l : List UInt8} (h : StR w wr sec nano v l) : wr.cell? ⟨w.heap.size, 0, none⟩ = some (.int .i64 (sec : Int)) := (blk_cell h.s 0).trans rfl
theorem StR.c1 {w wr : World} {sec nano : Nat} {v : Value} {l : List UInt8} (h : StR w wr sec nano v l) : wr.cell? ⟨w.heap.size, 1, none⟩ = some (.int .i64 (nano : Int)) := (blk_cell h.s 1).trans rfl
theorem StR.mk' {w wr : World} {sec nano : Nat} {v : Value} {l : List UInt8} (o : Own wr (w.heap.size + 1) v l) (b : Below (w.heap.size + 1) (w.alloc (.cells #[.int .i64 (sec : Int), .int .i64 (nano : Int)] 41)) wr) : StR w wr sec nano v l :=
  ⟨(b.block w.heap.size (by omega)).trans (blk_new w _), o, b⟩

theorem StR.size {w wr : World} {sec nano : Nat} {v : Value} {l : List UInt8} (h : StR w wr sec nano v l) : w.heap.size + 1 ≤ wr.heap.size := by
  have := h.below.size
  simp at this; omega
theorem StR.below0 {w wr : World} {sec nano : Nat} {v : Value} {l : List UInt8} (h : StR w wr sec nano v l) : Below w.heap.size w wr :=
  ((Below.refl w.heap.size w).alloc (Nat.le_refl _) _).trans (h.below.mono (by omega))
set_option maxRecDepth 100000 in
theorem refPut_yes (sec nano : Nat) (w : World) (h1 : sec ≤ 9223372036854775807) (h2 : nano ≤ 999999999) :
    Calls Tryz.prog 68 #[.agg #[.int .i64 (sec : Int), .int .i64 (nano : Int)]] w (Ret w (stPut sec nano)) := by
  have hv : stV sec nano = true := by unfold stV; simp; omega
  have HV := Lib.hid (fun w => refValid sec nano w)
  rw [hv] at HV
  clear hv
  have hlen := stPut_len sec nano
  go_enter Tryz.func68, Tryz.ntmps68
  go_wp2_with fail
  refine (HV.out _).mono ?_
  rintro e w1 ⟨rfl, hb⟩
  have hb2 : Below (w.heap.size + 1) (w.alloc (.cells #[.int .i64 (sec : Int), .int .i64 (nano : Int)] 41)) w1 := by have := hb; simpa using this
  have HB1 := Lib.hid hb2
  have HLN := Lib.hid hlen
  have HZ1 : Hid (w.heap.size + 1 ≤ w1.heap.size) := by have := hb.size; simp at this; exact this
  clear hb hb2 hlen
  go_wp2_with fail
  go_loopg [4, 5] 8 (fun gk v i wr => ∃ j : Nat, j ≤ 8 ∧ gk = 8 - j ∧ i = .int .i64 (j : Int) ∧ StR w wr sec nano v ((stPut sec nano).take j))
  case atStart => exact ⟨0, by omega, rfl, rfl, StR.mk' (by simpa using Own.nil w1 _) HB1.out⟩
  case round =>
    obtain ⟨j, hj, rfl, rfl, hS⟩ := hrel
    obtain ⟨VA, vc, rfl, _⟩ := hS.o.bs
    have hlk : ((stPut sec nano).take j).length = j := by rw [List.length_take, HLN.out]; omega
    have HS := Lib.hid hS
    clear hS
    rw [hlk] at HS
    rw [hlk]
    have c0 := HS.out.c0
    have c1 := HS.out.c1
    have HK := Lib.hid hlk
    clear hlk
    by_cases hlt : j < 8
    · have hlt2 : (j : Int) < 8 := by omega
      have HX := Lib.hid (take_snoc8 (l := stPut sec nano) (i := j) (by rw [HLN.out]; omega))
      have HG := Lib.hid (stPut_a sec nano j hlt)
      have hw := kind8_a sec j hlt
      have hs1 : 0 ≤ 56 - 8 * (j : Int) := by omega
      have hs2 : 56 - 8 * (j : Int) ≤ 56 := by omega
      generalize UInt8.ofNat (sec / 2 ^ (56 - 8 * j)) = y at *
      go_wp2_with (at_builtin; refine push_at (B := w.heap.size + 1) rfl (.tmp 15) (.tmp 24) rfl (.slice VA j vc) ((stPut sec nano).take j) y rfl rfl HS.out.o HS.out.below (StR.size HS.out) (by rw [HK.out]; omega) ?_; intro A1 c1 w5 hO1 hB1; rw [HK.out] at hO1 ⊢; have HO1 := Lib.hid hO1; have HB5 := Lib.hid hB1; clear hO1 hB1)
      go_roundg (8 - (j + 1))
      case measure => omega
      case rel =>
        refine ⟨j + 1, by omega, rfl, by go_num, StR.mk' ?_ HB5.out⟩
        rw [HX.out, HG.out]; exact HO1.out
    · obtain rfl : j = 8 := by omega
      clear hlt
      go_wp2_with fail
      go_loopg [4, 6] 4 (fun gk v i wr => ∃ j : Nat, j ≤ 4 ∧ gk = 4 - j ∧ i = .int .i64 (j : Int) ∧ StR w wr sec nano v ((stPut sec nano).take (8 + j)))
      case atStart => exact ⟨0, by omega, rfl, rfl, HS.out⟩
      case round =>
        obtain ⟨j, hj, rfl, rfl, hS⟩ := hrel
        obtain ⟨VA, vc, rfl, _⟩ := hS.o.bs
        have hlk : ((stPut sec nano).take (8 + j)).length = 8 + j := by rw [List.length_take, HLN.out]; omega
        have HS := Lib.hid hS
        clear hS
        rw [hlk] at HS
        rw [hlk]
        have c0 := HS.out.c0
        have c1 := HS.out.c1
        have HK := Lib.hid hlk
        clear hlk
        by_cases hlt : j < 4
        · have hlt2 : (j : Int) < 4 := by omega
          have HX := Lib.hid (take_snoc8 (l := stPut sec nano) (i := 8 + j) (by rw [HLN.out]; omega))
          have HG := Lib.hid (stPut_b sec nano j hlt)
          have hw := kind8_b nano j hlt
          have hs1 : 0 ≤ 24 - 8 * (j : Int) := by omega
          have hs2 : 24 - 8 * (j : Int) ≤ 24 := by omega
          generalize UInt8.ofNat (nano / 2 ^ (24 - 8 * j)) = y at *
          go_wp2_with (at_builtin; refine push_at (B := w.heap.size + 1) rfl (.tmp 30) (.tmp 39) rfl (.slice VA (8 + j) vc) ((stPut sec nano).take (8 + j)) y rfl rfl HS.out.o HS.out.below (StR.size HS.out) (by rw [HK.out]; omega) ?_; intro A1 c1 w5 hO1 hB1; rw [HK.out] at hO1 ⊢; have HO1 := Lib.hid hO1; have HB5 := Lib.hid hB1; clear hO1 hB1)
          go_roundg (4 - (j + 1))
          case measure => omega
          case rel =>
            refine ⟨j + 1, by omega, rfl, by go_num, StR.mk' ?_ HB5.out⟩
            rw [show 8 + (j + 1) = 8 + j + 1 by omega, HX.out, HG.out]; exact HO1.out
        · obtain rfl : j = 4 := by omega
          go_wp2_with fail
          go_ret
          have h := HS.out
          refine ⟨_, rfl, ?_, StR.below0 h⟩
          have ho := h.o.mono (b' := w.heap.size) (by omega)
          rwa [List.take_of_length_le (by rw [HLN.out]; omega)] at ho
end Go.Proofs.YtafdhccdjbfepaaGreat.Help
/- The walks of both Gets of stamps. -/
namespace Go.Proofs.YtafdhccdjbfepaaGreat.Help
open Go.RowKit Go.Proofs.YtafdhccdjbfepaaGreat.K
set_option linter.unusedVariables false

/-- what Get says of bytes: seconds, nanoseconds, the error -/
def stGet (l : List UInt8) : Int × Int × Int :=
  if l.length = 12 then (if 9223372036854775807 < val (l.take 8) ∨ 999999999 < val (l.drop 8) then (0, 0, 60) else (val (l.take 8), val (l.drop 8), 0)) else (0, 0, 60)
def stVal (t : Int × Int × Int) : Value := .tuple #[.agg #[.int .i64 t.1, .int .i64 t.2.1], .int .i64 t.2.2]

set_option maxRecDepth 100000 in
theorem stampGet (A : Option Addr) (c : Nat) (l : List UInt8) (w : World) (ha : Bs w A c l) :
    Calls Tryz.prog 45 #[.slice A l.length c] w (Pure w (stVal (stGet l))) := by
  have HA := Lib.hid ha
  have hmax := ha.max
  clear ha
  by_cases h12 : l.length = 12
  · have hne : ((l.length : Int) != 12) = false := by rw [bne_eq_false_iff_eq]; omega
    have H12 := Lib.hid h12
    obtain ⟨t, ht⟩ : ∃ t, stGet l = t := ⟨_, rfl⟩
    rw [ht]
    unfold stGet at ht
    rw [if_pos h12] at ht
    have HT := Lib.hid ht
    clear ht
    have hl1 : 12 ≤ l.length := by omega
    have hl2 : l.length ≤ 12 := by omega
    clear h12
    go_enter Tryz.func45, Tryz.ntmps45
    go_wp2_with fail
    go_loopg [4, 5, 14] 12 (fun gk s n i wr => ∃ k : Nat, k ≤ 12 ∧ gk = 12 - k ∧ i = .int .i64 (k : Int) ∧ wr = w.alloc (.cells #[.int .i64 0, .int .i64 0] 41) ∧ s = .int .u64 (val (l.take (min k 8)) : Int) ∧ n = .int .u64 (val ((l.drop 8).take (k - 8)) : Int))
    case atStart => exact ⟨0, by omega, rfl, rfl, rfl, rfl, rfl⟩
    case round =>
      obtain ⟨k, hk, rfl, rfl, rfl, rfl, rfl⟩ := hrel
      by_cases hlt : k < 12
      · have hlt2 : (k : Int) < l.length := by omega
        obtain ⟨ad, e1, hadl, c1⟩ := HA.out.at_ k (by omega)
        subst e1
        have c2 := (((Below.refl w.heap.size w).alloc (Nat.le_refl _) (.cells #[.int .i64 0, .int .i64 0] 41)).cell (p := ad.add k) (by rw [addr_add_block]; exact hadl)).trans c1
        clear c1 hadl
        by_cases h8 : k < 8
        · have h8' : (k : Int) < 8 := by omega
          have hs := take_snoc8 (l := l) (i := k) (by omega)
          have hv := val_small (l := l.take (min k 8)) (k := k) (by rw [List.length_take]; omega) (by omega)
          have hm1 : min k 8 = k := by omega
          have hm2 : min (k + 1) 8 = k + 1 := by omega
          have hor := or_byte (val (l.take (min k 8))) (l.getD k 0) hv
          have HN : Hid (val (l.take (min (k + 1) 8)) = val (l.take (min k 8)) * 256 + (l.getD k 0).toNat) := by rw [Hid, hm1, hm2, hs, val_snoc]
          have HD : Hid ((l.drop 8).take (k + 1 - 8) = (l.drop 8).take (k - 8)) := by rw [Hid, show k + 1 - 8 = 0 by omega, show k - 8 = 0 by omega]
          clear hs hm1 hm2
          have hb := (l.getD k 0).toNat_lt
          generalize l.getD k 0 = b at *
          generalize val (l.take (min k 8)) = x at *
          go_wp2_with fail
          go_roundg (12 - (k + 1))
          case measure => omega
          case rel =>
            refine ⟨k + 1, by omega, rfl, by go_num, rfl, ?_, by rw [HD.out]⟩
            rw [HN.out]; push_cast; rfl
        · have h8' : ¬ (k : Int) < 8 := by omega
          have hs := take_snoc8 (l := l.drop 8) (i := k - 8) (by rw [List.length_drop]; omega)
          have hg : (l.drop 8).getD (k - 8) 0 = l.getD k 0 := by simp [show 8 + (k - 8) = k by omega]
          rw [hg] at hs
          have hv := val_small (l := (l.drop 8).take (k - 8)) (k := k - 8) (by rw [List.length_take]; omega) (by omega)
          have hor := or_byte (val ((l.drop 8).take (k - 8))) (l.getD k 0) hv
          have HN : Hid (val ((l.drop 8).take (k + 1 - 8)) = val ((l.drop 8).take (k - 8)) * 256 + (l.getD k 0).toNat) := by rw [Hid, show k + 1 - 8 = k - 8 + 1 by omega, hs, val_snoc]
          have HD : Hid (l.take (min (k + 1) 8) = l.take (min k 8)) := by rw [Hid, show min (k + 1) 8 = 8 by omega, show min k 8 = 8 by omega]
          clear hs hg
          have hb := (l.getD k 0).toNat_lt
          generalize l.getD k 0 = b at *
          generalize val ((l.drop 8).take (k - 8)) = x at *
          go_wp2_with fail
          go_roundg (12 - (k + 1))
          case measure => omega
          case rel =>
            refine ⟨k + 1, by omega, rfl, by go_num, rfl, by rw [HD.out], ?_⟩
            rw [HN.out]; push_cast; rfl
      · obtain rfl : k = 12 := by omega
        have e1 : l.take (min 12 8) = l.take 8 := rfl
        have e2 : (l.drop 8).take (12 - 8) = l.drop 8 := List.take_of_length_le (by rw [List.length_drop]; omega)
        rw [e1, e2]
        clear e1 e2 hlt
        have hs8 : val (l.take 8) < 18446744073709551616 := Nat.lt_of_lt_of_le (val_lt _) (Nat.le_trans (Nat.pow_le_pow_right (by omega) (show (l.take 8).length ≤ 8 by rw [List.length_take]; omega)) (by decide))
        have hn8 : val (l.drop 8) < 4294967296 := Nat.lt_of_lt_of_le (val_lt _) (Nat.le_trans (Nat.pow_le_pow_right (by omega) (show (l.drop 8).length ≤ 4 by rw [List.length_drop]; omega)) (by decide))
        have hcs : (9223372036854775807 < val (l.take 8) ∧ t = (0, 0, 60)) ∨ (val (l.take 8) ≤ 9223372036854775807 ∧ 999999999 < val (l.drop 8) ∧ t = (0, 0, 60)) ∨ (val (l.take 8) ≤ 9223372036854775807 ∧ ¬ 999999999 < val (l.drop 8) ∧ t = ((val (l.take 8) : Int), (val (l.drop 8) : Int), 0)) := by
          have h := HT.out
          by_cases g1 : 9223372036854775807 < val (l.take 8)
          · exact .inl ⟨g1, by rw [← h, if_pos (.inl g1)]⟩
          by_cases g2 : 999999999 < val (l.drop 8)
          · exact .inr (.inl ⟨by omega, g2, by rw [← h, if_pos (.inr g2)]⟩)
          · exact .inr (.inr ⟨by omega, g2, by rw [← h, if_neg (by omega)]⟩)
        clear HT
        generalize val (l.take 8) = x at *
        generalize val (l.drop 8) = y at *
        rcases hcs with ⟨g1, rfl⟩ | ⟨g1, g2, rfl⟩ | ⟨g1, g2, rfl⟩
        · go_wp2_with fail
          exact bodyPost_ret (v := stVal (0, 0, 60)) (by simp [stVal, results, Tryz.results45, go_sem]) rfl ⟨rfl, by first | exact (Below.refl _ _).alloc (Nat.le_refl _) _ | exact (((Below.refl _ _).alloc (Nat.le_refl _) _).setCell (by simp) _) | exact ((((Below.refl _ _).alloc (Nat.le_refl _) _).setCell (by simp) _).setCell (by simp) _)⟩
        · go_wp2_with fail
          exact bodyPost_ret (v := stVal (0, 0, 60)) (by simp [stVal, results, Tryz.results45, go_sem]) rfl ⟨rfl, by first | exact (Below.refl _ _).alloc (Nat.le_refl _) _ | exact (((Below.refl _ _).alloc (Nat.le_refl _) _).setCell (by simp) _) | exact ((((Below.refl _ _).alloc (Nat.le_refl _) _).setCell (by simp) _).setCell (by simp) _)⟩
        · go_wp2_with fail
          exact bodyPost_ret (v := stVal ((x : Int), (y : Int), 0)) (by simp [stVal, results, Tryz.results45, go_sem]) rfl ⟨rfl, by first | exact (Below.refl _ _).alloc (Nat.le_refl _) _ | exact (((Below.refl _ _).alloc (Nat.le_refl _) _).setCell (by simp) _) | exact ((((Below.refl _ _).alloc (Nat.le_refl _) _).setCell (by simp) _).setCell (by simp) _)⟩
  · have hne : ((l.length : Int) != 12) = true := by rw [bne_iff_ne]; omega
    have ht : stGet l = (0, 0, 60) := by unfold stGet; rw [if_neg h12]
    rw [ht]
    clear ht h12
    go_enter Tryz.func45, Tryz.ntmps45
    go_wp2_with fail
    exact bodyPost_ret (v := stVal (0, 0, 60)) (by simp [stVal, results, Tryz.results45, go_sem]) rfl ⟨rfl, by first | exact (Below.refl _ _).alloc (Nat.le_refl _) _ | exact (((Below.refl _ _).alloc (Nat.le_refl _) _).setCell (by simp) _) | exact ((((Below.refl _ _).alloc (Nat.le_refl _) _).setCell (by simp) _).setCell (by simp) _)⟩

theorem val_app (l : List UInt8) (k : Nat) : val l = val (l.take k) * 256 ^ (l.drop k).length + val (l.drop k) := by
  have key : ∀ (m : List UInt8) (x : Nat), m.foldl (fun x b => x * 256 + b.toNat) x = x * 256 ^ m.length + val m := by
    intro m
    induction m with
    | nil => intro x; simp [val]
    | cons b m ih =>
      intro x
      have h1 := ih (x * 256 + b.toNat)
      have h2 := ih (0 * 256 + b.toNat)
      unfold val
      simp only [List.foldl_cons, List.length_cons, Nat.pow_succ]
      rw [h1, h2, Nat.add_mul, Nat.zero_mul, Nat.zero_add, Nat.mul_assoc, Nat.mul_comm 256 (256 ^ m.length)]
      omega
  have h := key (l.drop k) (val (l.take k))
  rw [← h]
  unfold val
  rw [← List.foldl_append, List.take_append_drop]
/-- the first bit of eight bytes -/
theorem val_top (l : List UInt8) (h : l.length = 12) : (9223372036854775807 < val (l.take 8)) ↔ 127 < (l.getD 0 0).toNat := by
  have h1 := val_app (l.take 8) 1
  have hl : ((l.take 8).drop 1).length = 7 := by rw [List.length_drop, List.length_take]; omega
  have h2 := val_lt ((l.take 8).drop 1)
  rw [hl] at h1 h2
  have h3 : (l.take 8).take 1 = [l.getD 0 0] := by
    match l, h with
    | a :: r, _ => simp
  rw [h3] at h1
  have h4 : val [l.getD 0 0] = (l.getD 0 0).toNat := by simp [val]
  rw [h4] at h1
  have h5 : (256 : Nat) ^ 7 = 72057594037927936 := by decide
  rw [h5] at h1 h2
  omega

set_option maxRecDepth 100000 in
theorem refGet (A : Option Addr) (c : Nat) (l : List UInt8) (w : World) (ha : Bs w A c l) :
    Calls Tryz.prog 88 #[.slice A l.length c] w (Pure w (stVal (stGet l))) := by
  have HA := Lib.hid ha
  have hmax := ha.max
  clear ha
  by_cases h12 : l.length = 12
  · have hne : ((l.length : Int) != 12) = false := by rw [bne_eq_false_iff_eq]; omega
    have H12 := Lib.hid h12
    obtain ⟨t, ht⟩ : ∃ t, stGet l = t := ⟨_, rfl⟩
    rw [ht]
    unfold stGet at ht
    rw [if_pos h12] at ht
    have HT := Lib.hid ht
    have HTOP := Lib.hid (val_top l h12)
    clear ht
    have hl1 : 12 ≤ l.length := by omega
    have hl2 : l.length ≤ 12 := by omega
    obtain ⟨ad0, e0, hadl0, c00⟩ := HA.out.at_ 0 (by omega)
    have c01 := (((Below.refl w.heap.size w).alloc (Nat.le_refl _) (.cells #[.int .i64 0, .int .i64 0] 41)).cell (p := ad0.add 0) (by rw [addr_add_block]; exact hadl0)).trans c00
    have ea : ad0.add 0 = ad0 := by unfold Addr.add; simp
    rw [ea] at c01
    subst e0
    clear h12 c00 hadl0 ea
    by_cases g1 : 127 < (l.getD 0 0).toNat
    · have h := HT.out
      rw [if_pos (.inl (HTOP.out.2 g1))] at h
      subst h
      clear HT HTOP
      generalize l.getD 0 0 = b at *
      go_enter Tryz.func88, Tryz.ntmps88
      go_wp2_with fail
      exact bodyPost_ret (v := stVal (0, 0, 60)) (by simp [stVal, results, Tryz.results88, go_sem]) rfl ⟨rfl, by first | exact (Below.refl _ _).alloc (Nat.le_refl _) _ | exact (((Below.refl _ _).alloc (Nat.le_refl _) _).setCell (by simp) _) | exact ((((Below.refl _ _).alloc (Nat.le_refl _) _).setCell (by simp) _).setCell (by simp) _)⟩
    · have htop : val (l.take 8) ≤ 9223372036854775807 := by have := HTOP.out; omega
      have HTP := Lib.hid htop
      generalize hq : l.getD 0 0 = b0 at *
      have HQ := Lib.hid hq
      clear hq htop HTOP
      go_enter Tryz.func88, Tryz.ntmps88
      go_wp2_with fail
      go_loopg [4, 5] 8 (fun gk s i wr => ∃ k : Nat, k ≤ 8 ∧ gk = 8 - k ∧ i = .int .i64 (k : Int) ∧ wr = w.alloc (.cells #[.int .i64 0, .int .i64 0] 41) ∧ s = .int .i64 (val (l.take k) : Int))
      case atStart => exact ⟨0, by omega, rfl, rfl, rfl, by simp [val]⟩
      case round =>
        obtain ⟨k, hk, rfl, rfl, rfl, rfl⟩ := hrel
        by_cases hlt : k < 8
        · have hlt2 : (k : Int) < 8 := by omega
          obtain ⟨ad, e1, hadl, c1⟩ := HA.out.at_ k (by omega)
          injection e1 with e1
          subst e1
          have c2 := (((Below.refl w.heap.size w).alloc (Nat.le_refl _) (.cells #[.int .i64 0, .int .i64 0] 41)).cell (p := ad0.add k) (by rw [addr_add_block]; exact hadl)).trans c1
          have hs := take_snoc8 (l := l) (i := k) (by omega)
          have HN : Hid (val (l.take (k + 1)) = val (l.take k) * 256 + (l.getD k 0).toNat) := by rw [Hid, hs, val_snoc]
          have hv : val (l.take k) * 256 + (l.getD k 0).toNat ≤ 9223372036854775807 := by
            rw [← HN.out]
            by_cases h7 : k = 7
            · subst h7; exact HTP.out
            · have := val_small (l := l.take (k + 1)) (k := k + 1) (by rw [List.length_take]; omega) (by omega)
              omega
          clear hs c1 hadl
          generalize l.getD k 0 = b at *
          generalize val (l.take k) = x at *
          go_wp2_with fail
          go_roundg (8 - (k + 1))
          case measure => omega
          case rel =>
            refine ⟨k + 1, by omega, rfl, by go_num, rfl, ?_⟩
            rw [HN.out]; push_cast; rfl
        · obtain rfl : k = 8 := by omega
          clear hlt
          go_wp2_with fail
          go_loopg [6, 7] 4 (fun gk s i wr => ∃ k : Nat, k ≤ 4 ∧ gk = 4 - k ∧ i = .int .i64 ((8 : Int) + k) ∧ wr = w.alloc (.cells #[.int .i64 0, .int .i64 0] 41) ∧ s = .int .i64 (val ((l.drop 8).take k) : Int))
          case atStart => exact ⟨0, by omega, rfl, rfl, rfl, by simp [val]⟩
          case round =>
            obtain ⟨k, hk, rfl, rfl, rfl, rfl⟩ := hrel
            by_cases hlt : k < 4
            · have hlt2 : (8 : Int) + k < 12 := by omega
              obtain ⟨ad, e1, hadl, c1⟩ := HA.out.at_ (8 + k) (by omega)
              injection e1 with e1
              subst e1
              have c2 := (((Below.refl w.heap.size w).alloc (Nat.le_refl _) (.cells #[.int .i64 0, .int .i64 0] 41)).cell (p := ad0.add (8 + k)) (by rw [addr_add_block]; exact hadl)).trans c1
              have hs := take_snoc8 (l := l.drop 8) (i := k) (by rw [List.length_drop]; omega)
              have hg : (l.drop 8).getD k 0 = l.getD (8 + k) 0 := by simp
              rw [hg] at hs
              have HN : Hid (val ((l.drop 8).take (k + 1)) = val ((l.drop 8).take k) * 256 + (l.getD (8 + k) 0).toNat) := by rw [Hid, hs, val_snoc]
              have hv : val ((l.drop 8).take k) * 256 + (l.getD (8 + k) 0).toNat ≤ 9223372036854775807 := by
                have := val_small (l := (l.drop 8).take k) (k := k) (by rw [List.length_take]; omega) (by omega)
                have := val_small (l := (l.drop 8).take (k + 1)) (k := k + 1) (by rw [List.length_take]; omega) (by omega)
                rw [HN.out] at this
                omega
              clear hs c1 hadl hg
              generalize l.getD (8 + k) 0 = b at *
              generalize val ((l.drop 8).take k) = x at *
              go_wp2_with fail
              go_roundg (4 - (k + 1))
              case measure => omega
              case rel =>
                refine ⟨k + 1, by omega, rfl, by go_num, rfl, ?_⟩
                rw [HN.out]; push_cast; rfl
            · obtain rfl : k = 4 := by omega
              have e2 : (l.drop 8).take 4 = l.drop 8 := List.take_of_length_le (by rw [List.length_drop]; omega)
              rw [e2]
              clear e2 hlt
              have hn8 : val (l.drop 8) < 4294967296 := Nat.lt_of_lt_of_le (val_lt _) (Nat.le_trans (Nat.pow_le_pow_right (by omega) (show (l.drop 8).length ≤ 4 by rw [List.length_drop]; omega)) (by decide))
              have htp := HTP.out
              have hcs : (999999999 < val (l.drop 8) ∧ t = (0, 0, 60)) ∨ (¬ 999999999 < val (l.drop 8) ∧ t = ((val (l.take 8) : Int), (val (l.drop 8) : Int), 0)) := by
                have h := HT.out
                by_cases g2 : 999999999 < val (l.drop 8)
                · exact .inl ⟨g2, by rw [← h, if_pos (.inr g2)]⟩
                · exact .inr ⟨g2, by rw [← h, if_neg (by omega)]⟩
              clear HT HTP
              generalize val (l.take 8) = x at *
              generalize val (l.drop 8) = y at *
              rcases hcs with ⟨g2, rfl⟩ | ⟨g2, rfl⟩
              · go_wp2_with fail
                exact bodyPost_ret (v := stVal (0, 0, 60)) (by simp [stVal, results, Tryz.results88, go_sem]) rfl ⟨rfl, by first | exact (Below.refl _ _).alloc (Nat.le_refl _) _ | exact (((Below.refl _ _).alloc (Nat.le_refl _) _).setCell (by simp) _) | exact ((((Below.refl _ _).alloc (Nat.le_refl _) _).setCell (by simp) _).setCell (by simp) _)⟩
              · go_wp2_with fail
                exact bodyPost_ret (v := stVal ((x : Int), (y : Int), 0)) (by simp [stVal, results, Tryz.results88, go_sem]) rfl ⟨rfl, by first | exact (Below.refl _ _).alloc (Nat.le_refl _) _ | exact (((Below.refl _ _).alloc (Nat.le_refl _) _).setCell (by simp) _) | exact ((((Below.refl _ _).alloc (Nat.le_refl _) _).setCell (by simp) _).setCell (by simp) _)⟩
  · have hne : ((l.length : Int) != 12) = true := by rw [bne_iff_ne]; omega
    have ht : stGet l = (0, 0, 60) := by unfold stGet; rw [if_neg h12]
    rw [ht]
    clear ht h12
    go_enter Tryz.func88, Tryz.ntmps88
    go_wp2_with fail
    exact bodyPost_ret (v := stVal (0, 0, 60)) (by simp [stVal, results, Tryz.results88, go_sem]) rfl ⟨rfl, by first | exact (Below.refl _ _).alloc (Nat.le_refl _) _ | exact (((Below.refl _ _).alloc (Nat.le_refl _) _).setCell (by simp) _) | exact ((((Below.refl _ _).alloc (Nat.le_refl _) _).setCell (by simp) _).setCell (by simp) _)⟩
end Go.Proofs.YtafdhccdjbfepaaGreat.Help
/- The walks of PutBoots, the program's and the document's. -/
namespace Go.Proofs.YtafdhccdjbfepaaGreat.Help
open Go.RowKit Go.Proofs.YtafdhccdjbfepaaGreat.K
set_option linter.unusedVariables false

/-- a row and an error, in new memory -/
def RowRet (w : World) (k v : List UInt8) (code : Int) (e : Ending) (w' : World) : Prop :=
  ∃ v1 v2, e = .returned (.tuple #[.agg #[v1, v2], .int .i64 code]) ∧ Own w' w.heap.size v1 k ∧ Own w' w.heap.size v2 v ∧ Below w.heap.size w w'
def putBoots (n : Int) : List UInt8 × List UInt8 × Int := if n < 0 ∨ 4611686018427387904 < n then ([], [], 114) else ([66], be 8 n.toNat, 0)
theorem putBoots_cases (n : Int) : (n < 0 ∧ putBoots n = ([], [], 114)) ∨ (0 ≤ n ∧ 4611686018427387904 < n ∧ putBoots n = ([], [], 114)) ∨ (∃ m : Nat, n = m ∧ m ≤ 4611686018427387904 ∧ putBoots n = ([66], be 8 m, 0)) := by
  unfold putBoots
  by_cases h1 : n < 0
  · exact .inl ⟨h1, by rw [if_pos (.inl h1)]⟩
  by_cases h2 : 4611686018427387904 < n
  · exact .inr (.inl ⟨by omega, h2, by rw [if_pos (.inr h2)]⟩)
  · exact .inr (.inr ⟨n.toNat, by omega, by omega, by rw [if_neg (by omega)]⟩)
/-- the two cells of a result -/
theorem row_done {w w2 : World} {A B : Option Addr} {a b c d : Nat} {k v : List UInt8} (h1 : Own w2 (w.heap.size + 1) (.slice A a c) k) (h2 : Own w2 (w.heap.size + 1) (.slice B b d) v) (hb : Below w.heap.size w w2) (code : Int) :
    RowRet w k v code (.returned (.tuple #[.agg #[.slice A a c, .slice B b d], .int .i64 code])) ((w2.setCell ⟨w.heap.size, 0, none⟩ (.slice A a c)).setCell ⟨w.heap.size, 1, none⟩ (.slice B b d)) := by
  have ho : Only w2 ((w2.setCell ⟨w.heap.size, 0, none⟩ (.slice A a c)).setCell ⟨w.heap.size, 1, none⟩ (.slice B b d)) (fun k => k = w.heap.size) :=
    ((Only.refl w2 (fun k => k = w.heap.size)).setCell (p := ⟨w.heap.size, 0, none⟩) (.inl rfl) _).setCell (p := ⟨w.heap.size, 1, none⟩) (.inl rfl) _
  refine ⟨_, _, rfl, (h1.only ho (fun i hi e => ?_)).mono (by omega), (h2.only ho (fun i hi e => ?_)).mono (by omega), below_only hb ho (fun i hi => by rw [hi]; exact Nat.le_refl _)⟩
  · have := h1.base_le hi; omega
  · have := h2.base_le hi; omega

set_option maxRecDepth 100000 in
theorem putBoots_any (n : Int) (w : World) (hn : n ≤ 9223372036854775807) :
    Calls Tryz.prog 15 #[.int .i64 n] w (RowRet w (putBoots n).1 (putBoots n).2.1 (putBoots n).2.2) := by
  rcases putBoots_cases n with ⟨e1, e⟩ | ⟨e1, e2, e⟩ | ⟨m, rfl, e1, e⟩
  · rw [e]
    clear e
    go_enter Tryz.func15, Tryz.ntmps15
    go_wp2_with fail
    exact bodyPost_ret (v := .tuple #[.agg #[.slice none 0 0, .slice none 0 0], .int .i64 114]) (by simp [results, Tryz.results15, go_sem]) rfl ⟨_, _, rfl, Own.nil _ _, Own.nil _ _, by first | exact (Below.refl _ _).alloc (Nat.le_refl _) _ | exact ((((Below.refl _ _).alloc (Nat.le_refl _) _).setCell (by simp) _).setCell (by simp) _)⟩
  · rw [e]
    clear e
    go_enter Tryz.func15, Tryz.ntmps15
    go_wp2_with fail
    exact bodyPost_ret (v := .tuple #[.agg #[.slice none 0 0, .slice none 0 0], .int .i64 114]) (by simp [results, Tryz.results15, go_sem]) rfl ⟨_, _, rfl, Own.nil _ _, Own.nil _ _, by first | exact (Below.refl _ _).alloc (Nat.le_refl _) _ | exact ((((Below.refl _ _).alloc (Nat.le_refl _) _).setCell (by simp) _).setCell (by simp) _)⟩
  · rw [e]
    clear e
    have P := Lib.hid (fun w => Bits.put_uint64 none 0 [] m w (Bs.nil _ _ _) (by simp) (by omega))
    go_enter Tryz.func15, Tryz.ntmps15
    go_wp2_with fail
    refine (P.out _).mono ?_
    rintro e w2 ⟨v2, rfl, ho, hb⟩
    obtain ⟨B, d, rfl, _⟩ := ho.bs
    have q0 := (blk_alloc (blk_new w (.cells #[Value.slice none 0 0, Value.slice none 0 0] 47)) (.cells #[Value.int IntKind.u8 66] 5))
    have q1 : Blk ((w.alloc (.cells #[Value.slice none 0 0, Value.slice none 0 0] 47)).alloc (.cells #[Value.int IntKind.u8 66] 5)) (w.alloc (.cells #[Value.slice none 0 0, Value.slice none 0 0] 47)).heap.size [66] := blk_new _ _
    have c0 := (hb.block _ (blk_lt q0)).trans q0
    have o1 := (q1.own (Nat.le_refl _) (by decide)).below hb
    have hz : (w.alloc (.cells #[Value.slice none 0 0, Value.slice none 0 0] 47)).heap.size = w.heap.size + 1 := by simp
    have hz2 : ((w.alloc (.cells #[Value.slice none 0 0, Value.slice none 0 0] 47)).alloc (.cells #[Value.int IntKind.u8 66] 5)).heap.size = w.heap.size + 2 := by simp
    rw [hz] at o1
    replace ho := ho.mono (b' := w.heap.size + 1) (by omega)
    have hbw : Below w.heap.size w w2 := (((Below.refl w.heap.size w).alloc (Nat.le_refl _) _).alloc (by omega) _).trans (hb.mono (by omega))
    have d0 := blk_cell c0 0
    have d1 := blk_cell c0 1
    have e0 := blk_free c0 0
    have e1 := blk_free c0 1
    generalize ([] ++ be 8 m).length = dl at *
    have f := blk_set (blk_set c0 0 (.slice (some ⟨w.heap.size + 1, 0, none⟩) 1 1)) 1 (.slice B dl d)
    have f0 := Lib.hid ((blk_cell f 0).trans (b := some (Value.slice (some ⟨w.heap.size + 1, 0, none⟩) 1 1)) rfl)
    have f1 := Lib.hid ((blk_cell f 1).trans (b := some (Value.slice B dl d)) rfl)
    clear q0 q1 c0 hb hz hz2 f
    go_wp2
    exact bodyPost_ret (v := .tuple #[.agg #[.slice (some ⟨w.heap.size + 1, 0, none⟩) 1 1, .slice B dl d], .int .i64 0]) (by simp [results, Tryz.results15, go_sem, f0.out, f1.out]) rfl (row_done o1 ho hbw 0)
end Go.Proofs.YtafdhccdjbfepaaGreat.Help
/- The walk of the program's GetBoots. -/
namespace Go.Proofs.YtafdhccdjbfepaaGreat.Help
open Go.RowKit Go.Proofs.YtafdhccdjbfepaaGreat.K
set_option linter.unusedVariables false

/-- an i64 of a u64 -/
def asInt (x : Nat) : Int := wrap64 (x : Int)
set_option maxRecDepth 100000 in
theorem getBoots1 (kr : Value) (g rb : Nat) (L : List UInt8) (w : World) (h : Rdr w g rb L 0 0) :
    Calls Tryz.prog 90 #[kr, .pointer (some ⟨g, 0, none⟩)] w (fun e w' => e = .returned (.int .i64 (asInt (val (takes L 0 8 0).1))) ∧ Only w w' (fun k => k = g)) := by
  have HR := Lib.hid h
  clear h
  go_enter Tryz.func90, Tryz.ntmps90
  go_wp2_with fail
  refine (get_uint64 g rb 0 L 0 _ HR.out).mono ?_
  rintro e w1 ⟨rfl, h1, h2⟩
  have HO := Lib.hid h2
  clear h1 h2
  generalize hx : val (takes L 0 8 0).1 = x at *
  have HX := Lib.hid hx
  clear hx
  go_wp2_with fail
  go_ret
  have e1 : asInt (val (takes L 0 8 0).1) = wrap64 (x : Int) := by unfold asInt; rw [HX.out]
  exact ⟨by rw [e1]; rfl, HO.out⟩
/-- what read answers: the thing, if its row is the row -/
def readAs (p : List UInt8 × List UInt8 × Int) (k v : List UInt8) (x none : Value) : Value := if p.2.2 = 0 ∧ p.1 = k ∧ p.2.1 = v then .tuple #[x, .int .i64 0] else .tuple #[none, .int .i64 114]
theorem readAs_no {p : List UInt8 × List UInt8 × Int} {k v : List UInt8} {x none : Value} (h : ¬ (p.2.2 = 0 ∧ p.1 = k ∧ p.2.1 = v)) : readAs p k v x none = .tuple #[none, .int .i64 114] := if_neg h
theorem asInt_le (x : Nat) : asInt x ≤ 9223372036854775807 := by unfold asInt wrap64; omega
/-- read's memory: the box of the row -/
structure RdS (w w' : World) (x y : Value) : Prop where
  b : w'.heap[w.heap.size]? = some (.cells #[x, y] 47 (0, 0))
  below : Below w.heap.size w w'
theorem RdS.c0 {w w' : World} {x y : Value} (h : RdS w w' x y) : w'.cell? ⟨w.heap.size, 0, none⟩ = some x := (blk_cell h.b 0).trans rfl
theorem RdS.c1 {w w' : World} {x y : Value} (h : RdS w w' x y) : w'.cell? ⟨w.heap.size, 1, none⟩ = some y := (blk_cell h.b 1).trans rfl
theorem RdS.start (w : World) (x y : Value) : RdS w (w.alloc (.cells #[x, y] 47)) x y := ⟨blk_new _ _, below_alloc (Below.refl _ _) _⟩
theorem RdS.step {w w' w2 : World} {x y : Value} (h : RdS w w' x y) (hb : Below w'.heap.size w' w2) : RdS w w2 x y := ⟨(hb.block _ (blk_lt h.b)).trans h.b, below_step h.below hb⟩
theorem RdS.drewN {w w' : World} {x y : Value} (h : RdS w w' x y) (n : Nat) : RdS w (w'.drewN n) x y := ⟨h.b, below_drewN h.below n⟩
theorem RdS.only {w w' w2 : World} {x y : Value} {T : Nat → Prop} (h : RdS w w' x y) (k : Only w' w2 T) (hT : ∀ i, T i → w.heap.size < i) : RdS w w2 x y :=
  ⟨k.blk h.b (fun h2 => by have := hT _ h2; omega), below_only h.below k (fun i hi => Nat.le_of_lt (hT i hi))⟩
theorem RdS.bs {w w' : World} {x y : Value} (h : RdS w w' x y) {A : Option Addr} {c : Nat} {l : List UInt8} (hs : Bs w A c l) : Bs w' A c l := hs.below h.below
/-- behind the two readers -/
theorem RdS.first {w w' w1 : World} {x y : Value} {L : List UInt8} {e : Ending} (h : RdS w w' x y) (hn : NewR w' L e w1) : ∃ g rb, e = .returned (.pointer (some ⟨g, 0, none⟩)) ∧ RdS w w1 x y ∧ Rdr w1 g rb L 0 0 ∧ w.heap.size < g ∧ w.heap.size < rb := by
  obtain ⟨g, rb, he, hr, hb, hg, hrb⟩ := hn
  have := blk_lt h.b
  exact ⟨g, rb, he, h.step hb, hr, by omega, by omega⟩

set_option maxRecDepth 100000 in
theorem readBoots (A B : Option Addr) (c d : Nat) (k v : List UInt8) (w : World) (ha : Bs w A c k) (hb : Bs w B d v) :
    Calls Tryz.prog 89 #[.agg #[.slice A k.length c, .slice B v.length d], .func (.func 90) #[] #[], .func (.func 15) #[] #[]] w (Pure w (readAs (putBoots (asInt (val (takes v 0 8 0).1))) k v (.int .i64 (asInt (val (takes v 0 8 0).1))) (.int .i64 0))) := by
  have HA := Lib.hid ha
  have HB := Lib.hid hb
  clear ha hb
  have H0 := Lib.hid (RdS.start w (.slice A k.length c) (.slice B v.length d))
  have s0 := H0.out.c0
  have s1 := H0.out.c1
  have G : Hid (∀ kr g rb w, Rdr w g rb v 0 0 → Calls Tryz.prog 90 #[kr, .pointer (some ⟨g, 0, none⟩)] w (fun e w' => e = .returned (.int .i64 (asInt (val (takes v 0 8 0).1))) ∧ Only w w' (fun k => k = g))) := Lib.hid (fun kr g rb w h => getBoots1 kr g rb v w h)
  have P : Hid (∀ w, Calls Tryz.prog 15 #[.int .i64 (asInt (val (takes v 0 8 0).1))] w (RowRet w (putBoots (asInt (val (takes v 0 8 0).1))).1 (putBoots (asInt (val (takes v 0 8 0).1))).2.1 (putBoots (asInt (val (takes v 0 8 0).1))).2.2)) := Lib.hid (fun w => putBoots_any _ w (asInt_le _))
  generalize putBoots (asInt (val (takes v 0 8 0).1)) = p at *
  generalize asInt (val (takes v 0 8 0).1) = x at *
  obtain ⟨k', v', code⟩ := p
  dsimp only at P
  go_enter Tryz.func89, Tryz.ntmps89
  go_wp2_with fail
  go_region_held3 (fun w' => w'.cell? ⟨w.heap.size, 0, none⟩ = some (.slice A k.length c) ∧ w'.cell? ⟨w.heap.size, 1, none⟩ = some (.slice B v.length d)) (first | go_keep | exact ⟨d0, d1⟩ | exact ⟨e0, e1⟩ | exact ⟨f0, f1⟩)
    (first
    | (go_at_call 80; refine (newReader B d v _ (H1.out.bs HB.out)).mono ?_; rintro e w2 h1; obtain ⟨g2, r2, rfl, h1, h2, hg2, _⟩ := H1.out.first h1; have e0 := h1.c0; have e1 := h1.c1; have H2 := Lib.hid h1; have R2 := Lib.hid h2; clear h1 h2)
    | (go_at_call 80; refine (newReader A c k _ ((H0.out.drewN _).bs HA.out)).mono ?_; rintro e w1 h1; obtain ⟨g1, r1, rfl, h1, h2, _, _⟩ := (H0.out.drewN _).first h1; have d0 := h1.c0; have d1 := h1.c1; have H1 := Lib.hid h1; clear h1 h2)
    | (go_at_call 90; refine (G.out _ g2 r2 _ R2.out).mono ?_; rintro e w3 ⟨rfl, h1⟩; have h2 := H2.out.only h1 (fun i hi => by rw [hi]; exact hg2); have f0 := h2.c0; have f1 := h2.c1; have H3 := Lib.hid h2; clear h1 h2))
  go_wp2_with fail
  refine (P.out _).mono ?_
  rintro e w4 ⟨v1, v2, rfl, o1, o2, hb4⟩
  obtain ⟨A1, c1, rfl, q1⟩ := o1.bs
  obtain ⟨A2, c2, rfl, q2⟩ := o2.bs
  have h5 := (H3.out.step hb4).step (below_alloc (Below.refl _ _) (.cells #[.slice A1 k'.length c1, .slice A2 v'.length c2] 47))
  have k0 := h5.c0
  have k1 := h5.c1
  have H5 := Lib.hid h5
  have Q1 := Lib.hid (q1.below (below_alloc (Below.refl _ _) (.cells #[.slice A1 k'.length c1, .slice A2 v'.length c2] 47)))
  have Q2 := Lib.hid (q2.below (below_alloc (Below.refl _ _) (.cells #[.slice A1 k'.length c1, .slice A2 v'.length c2] 47)))
  clear o1 o2 hb4 q1 q2 f0 f1 h5 H0 s0 s1 d0 d1 e0 e1 H1 H2 R2 H3 P G
  by_cases hc : code = 0
  · subst hc
    have hm := IntKind.wrap_i64
    clear hm
    go_wp2_with fail
    refine (bytesEqual A1 A c1 c k' k _ Q1.out (H5.out.bs HA.out)).mono ?_
    rintro e w5 ⟨n1, rfl, rfl⟩
    have k2 := (H5.out.drewN n1).c1
    by_cases hk : k' = k
    · have hd : decide (k' = k) = true := decide_eq_true hk
      rw [hd]
      have HK := Lib.hid hk
      clear hk hd
      go_wp2_with fail
      refine (bytesEqual A2 B c2 d v' v _ (Q2.out.drewN n1) ((H5.out.drewN n1).bs HB.out)).mono ?_
      rintro e w5 ⟨n2, rfl, rfl⟩
      by_cases hv : v' = v
      · have hd2 : decide (v' = v) = true := decide_eq_true hv
        rw [hd2]
        have HE : Hid (Value.tuple #[Value.int .i64 x, .int .i64 0] = readAs (k', v', 0) k v (.int .i64 x) (.int .i64 0)) := Lib.hid (if_pos ⟨rfl, HK.out, hv⟩).symm
        clear hv hd2
        go_wp2_with fail
        exact bodyPost_ret (v := Value.tuple #[Value.int .i64 x, .int .i64 0]) (by simp [results, Tryz.results89, go_sem]) rfl ⟨by rw [← HE.out], below_drewN H5.out.below _⟩
      · have hd2 : decide (v' = v) = false := decide_eq_false hv
        rw [hd2]
        have HE : Hid (Value.tuple #[Value.int .i64 0, .int .i64 114] = readAs (k', v', 0) k v (.int .i64 x) (.int .i64 0)) := Lib.hid (if_neg (fun h => hv h.2.2)).symm
        clear hv hd2
        go_wp2_with fail
        exact bodyPost_ret (v := Value.tuple #[Value.int .i64 0, .int .i64 114]) (by simp [results, Tryz.results89, go_sem]) rfl ⟨by rw [← HE.out], below_drewN H5.out.below _⟩
    · have hd : decide (k' = k) = false := decide_eq_false hk
      rw [hd]
      have HE : Hid (Value.tuple #[Value.int .i64 0, .int .i64 114] = readAs (k', v', 0) k v (.int .i64 x) (.int .i64 0)) := Lib.hid (if_neg (fun h => hk h.2.1)).symm
      clear hk hd
      go_wp2_with fail
      exact bodyPost_ret (v := Value.tuple #[Value.int .i64 0, .int .i64 114]) (by simp [results, Tryz.results89, go_sem]) rfl ⟨by rw [← HE.out], below_drewN H5.out.below _⟩
  · have hd : (code != 0) = true := by simpa using hc
    have HE : Hid (Value.tuple #[Value.int .i64 0, .int .i64 114] = readAs (k', v', code) k v (.int .i64 x) (.int .i64 0)) := Lib.hid (if_neg (fun h => hc h.1)).symm
    go_wp2_with fail
    exact bodyPost_ret (v := Value.tuple #[Value.int .i64 0, .int .i64 114]) (by simp [results, Tryz.results89, go_sem]) rfl ⟨by rw [← HE.out], H5.out.below⟩
end Go.Proofs.YtafdhccdjbfepaaGreat.Help
/- The document's PutBoots. -/
namespace Go.Proofs.YtafdhccdjbfepaaGreat.Help
open Go.RowKit Go.Proofs.YtafdhccdjbfepaaGreat.K
set_option linter.unusedVariables false

set_option maxRecDepth 100000 in
theorem refPutBoots_any (n : Int) (w : World) (hn : n ≤ 9223372036854775807) :
    Calls Tryz.prog 91 #[.int .i64 n] w (RowRet w (putBoots n).1 (putBoots n).2.1 (putBoots n).2.2) := by
  rcases putBoots_cases n with ⟨e1, e⟩ | ⟨e1, e2, e⟩ | ⟨m, rfl, e1, e⟩
  · rw [e]
    clear e
    go_enter Tryz.func91, Tryz.ntmps91
    go_wp2_with fail
    exact bodyPost_ret (v := .tuple #[.agg #[.slice none 0 0, .slice none 0 0], .int .i64 114]) (by simp [results, Tryz.results91, go_sem]) rfl ⟨_, _, rfl, Own.nil _ _, Own.nil _ _, by first | exact (Below.refl _ _).alloc (Nat.le_refl _) _ | exact ((((Below.refl _ _).alloc (Nat.le_refl _) _).setCell (by simp) _).setCell (by simp) _)⟩
  · rw [e]
    clear e
    go_enter Tryz.func91, Tryz.ntmps91
    go_wp2_with fail
    exact bodyPost_ret (v := .tuple #[.agg #[.slice none 0 0, .slice none 0 0], .int .i64 114]) (by simp [results, Tryz.results91, go_sem]) rfl ⟨_, _, rfl, Own.nil _ _, Own.nil _ _, by first | exact (Below.refl _ _).alloc (Nat.le_refl _) _ | exact ((((Below.refl _ _).alloc (Nat.le_refl _) _).setCell (by simp) _).setCell (by simp) _)⟩
  · rw [e]
    clear e
    have P := Lib.hid (fun w => number m 8 w (by omega) (by omega))
    go_enter Tryz.func91, Tryz.ntmps91
    go_wp2_with fail
    refine (P.out _).mono ?_
    rintro e w2 ⟨v2, rfl, ho, hb⟩
    obtain ⟨B, d, rfl, _⟩ := ho.bs
    have q0 := (blk_alloc (blk_new w (.cells #[Value.slice none 0 0, Value.slice none 0 0] 47)) (.cells #[Value.int IntKind.u8 66] 5))
    have q1 : Blk ((w.alloc (.cells #[Value.slice none 0 0, Value.slice none 0 0] 47)).alloc (.cells #[Value.int IntKind.u8 66] 5)) (w.alloc (.cells #[Value.slice none 0 0, Value.slice none 0 0] 47)).heap.size [66] := blk_new _ _
    have c0 := (hb.block _ (blk_lt q0)).trans q0
    have o1 := (q1.own (Nat.le_refl _) (by decide)).below hb
    have hz : (w.alloc (.cells #[Value.slice none 0 0, Value.slice none 0 0] 47)).heap.size = w.heap.size + 1 := by simp
    have hz2 : ((w.alloc (.cells #[Value.slice none 0 0, Value.slice none 0 0] 47)).alloc (.cells #[Value.int IntKind.u8 66] 5)).heap.size = w.heap.size + 2 := by simp
    rw [hz] at o1
    replace ho := ho.mono (b' := w.heap.size + 1) (by omega)
    have hbw : Below w.heap.size w w2 := (((Below.refl w.heap.size w).alloc (Nat.le_refl _) _).alloc (by omega) _).trans (hb.mono (by omega))
    have d0 := blk_cell c0 0
    have d1 := blk_cell c0 1
    have e0 := blk_free c0 0
    have e1 := blk_free c0 1
    generalize (be 8 m).length = dl at *
    have f := blk_set (blk_set c0 0 (.slice (some ⟨w.heap.size + 1, 0, none⟩) 1 1)) 1 (.slice B dl d)
    have f0 := Lib.hid ((blk_cell f 0).trans (b := some (Value.slice (some ⟨w.heap.size + 1, 0, none⟩) 1 1)) rfl)
    have f1 := Lib.hid ((blk_cell f 1).trans (b := some (Value.slice B dl d)) rfl)
    clear q0 q1 c0 hb hz hz2 f
    go_wp2
    exact bodyPost_ret (v := .tuple #[.agg #[.slice (some ⟨w.heap.size + 1, 0, none⟩) 1 1, .slice B dl d], .int .i64 0]) (by simp [results, Tryz.results91, go_sem, f0.out, f1.out]) rfl (row_done o1 ho hbw 0)
end Go.Proofs.YtafdhccdjbfepaaGreat.Help
/- The walks of GetBoots, the program's and the document's, and of SameRow. -/
namespace Go.Proofs.YtafdhccdjbfepaaGreat.Help
open Go.RowKit Go.Proofs.YtafdhccdjbfepaaGreat.K
set_option linter.unusedVariables false

theorem readAs_cases (p : List UInt8 × List UInt8 × Int) (k v : List UInt8) (x none : Int) : ∃ a b, readAs p k v (.int .i64 x) (.int .i64 none) = .tuple #[.int .i64 a, .int .i64 b] := by
  unfold readAs; split
  · exact ⟨_, _, rfl⟩
  · exact ⟨_, _, rfl⟩
set_option maxRecDepth 100000 in
theorem getBoots_any (A B : Option Addr) (c d : Nat) (k v : List UInt8) (w : World) (ha : Bs w A c k) (hb : Bs w B d v) :
    Calls Tryz.prog 51 #[.agg #[.slice A k.length c, .slice B v.length d]] w (Pure w (readAs (putBoots (asInt (val (takes v 0 8 0).1))) k v (.int .i64 (asInt (val (takes v 0 8 0).1))) (.int .i64 0))) := by
  have H0 := Lib.hid (RdS.start w (.slice A k.length c) (.slice B v.length d))
  have R := Lib.hid (readBoots A B c d k v _ (H0.out.bs ha) (H0.out.bs hb))
  clear ha hb
  obtain ⟨a, b, hab⟩ := readAs_cases (putBoots (asInt (val (takes v 0 8 0).1))) k v (asInt (val (takes v 0 8 0).1)) 0
  rw [hab] at R ⊢
  clear hab
  go_enter Tryz.func51, Tryz.ntmps51
  go_wp2_with fail
  refine R.out.mono ?_
  rintro e w1 ⟨rfl, hb1⟩
  have HB := Lib.hid (below_then (H0.out.below) H0.out.below.size hb1)
  clear hb1
  go_wp2_with fail
  exact bodyPost_ret (v := .tuple #[.int .i64 a, .int .i64 b]) (by simp [results, Tryz.results51, go_sem]) rfl ⟨rfl, HB.out⟩

set_option maxRecDepth 100000 in
theorem sameRow (A B C D : Option Addr) (a b c d : Nat) (k v k' v' : List UInt8) (w : World) (h1 : Bs w A a k) (h2 : Bs w B b v) (h3 : Bs w C c k') (h4 : Bs w D d v') :
    Calls Tryz.prog 16 #[.agg #[.slice A k.length a, .slice B v.length b], .agg #[.slice C k'.length c, .slice D v'.length d]] w (Pure w (.bool (decide (k = k') && decide (v = v')))) := by
  have hb : Below w.heap.size w ((w.alloc (.cells #[.slice A k.length a, .slice B v.length b] 47)).alloc (.cells #[.slice C k'.length c, .slice D v'.length d] 47)) := below_alloc (below_alloc (Below.refl _ _) _) _
  have HB := Lib.hid hb
  have T1 := Lib.hid (sameBytes A C a c k k' _ (h1.below hb) (h3.below hb))
  have T2 := Lib.hid (fun n => sameBytes B D b d v v' _ ((h2.below hb).drewN n) ((h4.below hb).drewN n))
  clear h1 h2 h3 h4 hb
  generalize decide (k = k') = r1 at *
  generalize decide (v = v') = r2 at *
  go_enter Tryz.func16, Tryz.ntmps16
  go_wp2_with fail
  refine T1.out.mono ?_
  rintro e w1 ⟨n1, rfl, rfl⟩
  go_wp2_with fail
  refine (T2.out _).mono ?_
  rintro e w1 ⟨n2, rfl, rfl⟩
  cases r1
  · go_wp2_with fail
    go_ret
    exact ⟨rfl, below_drewN (HB.out) _⟩
  · go_wp2_with fail
    go_ret
    exact ⟨rfl, below_drewN (HB.out) _⟩
end Go.Proofs.YtafdhccdjbfepaaGreat.Help
/- The walk of the document's GetBoots. -/
namespace Go.Proofs.YtafdhccdjbfepaaGreat.Help
open Go.RowKit Go.Proofs.YtafdhccdjbfepaaGreat.K
set_option linter.unusedVariables false

theorem takes_rd (v : List UInt8) (n : Nat) : val (takes v 0 n 0).1 = rdAt v 0 n := by
  unfold takes rdAt cutN
  simp only [ne_eq, not_true, if_false]
  split
  · rw [if_pos (by omega)]; rfl
  · rw [if_neg (by omega)]
theorem asInt_small {x : Nat} (h : x ≤ 9223372036854775807) : asInt x = x := by unfold asInt; rw [wrap64]; omega
theorem asInt_big {x : Nat} (h : 4611686018427387904 < x) (h2 : x < 18446744073709551616) : (putBoots (asInt x)).2.2 = 114 := by
  unfold putBoots
  rw [if_pos]
  unfold asInt; rw [wrap64]; omega
theorem putBoots_len {n : Int} (h : (putBoots n).2.2 = 0) : (putBoots n).2.1.length = 8 := by
  unfold putBoots at h ⊢
  split at h
  · cases h
  · rename_i h2; rw [if_neg h2]; exact be_len 8 _
theorem rdAt_lt (v : List UInt8) : rdAt v 0 8 < 18446744073709551616 := by
  unfold rdAt
  split
  · decide
  · exact Nat.lt_of_lt_of_le (val_pow (l := (v.drop 0).take 8) (k := 8) (by rw [List.length_take]; omega)) (by decide)
set_option maxRecDepth 100000 in
set_option maxHeartbeats 1000000 in
theorem refGetBoots_any (A B : Option Addr) (c d : Nat) (k v : List UInt8) (w : World) (ha : Bs w A c k) (hb : Bs w B d v) :
    Calls Tryz.prog 52 #[.agg #[.slice A k.length c, .slice B v.length d]] w (Pure w (readAs (putBoots (asInt (rdAt v 0 8))) k v (.int .i64 (asInt (rdAt v 0 8))) (.int .i64 0))) := by
  have H0 := Lib.hid (RdS.start w (.slice A k.length c) (.slice B v.length d))
  have R := Lib.hid (read B d v 0 8 _ (H0.out.bs hb) (by decide) (by decide))
  have HA := Lib.hid (H0.out.bs ha)
  have HB := Lib.hid (H0.out.bs hb)
  have hlt := rdAt_lt v
  have h1 := ha.max
  have h2 := hb.max
  clear ha hb
  by_cases hbad : v.length ≠ 8 ∨ 4611686018427387904 < rdAt v 0 8
  · have HE : Hid (readAs (putBoots (asInt (rdAt v 0 8))) k v (.int .i64 (asInt (rdAt v 0 8))) (.int .i64 0) = .tuple #[.int .i64 0, .int .i64 114]) := by
      refine readAs_no (fun h => ?_)
      rcases hbad with h5 | h5
      · have := putBoots_len h.1; rw [h.2.2] at this; exact h5 this
      · rw [asInt_big h5 hlt] at h; exact absurd h.1 (by decide)
    rw [HE.out]
    clear HE
    generalize rdAt v 0 8 = x at *
    rcases hbad with h5 | h5
    · have h6 : ((v.length : Int) != 8) = true := by rw [bne_iff_ne]; omega
      go_enter Tryz.func52, Tryz.ntmps52
      go_wp2_with fail
      refine R.out.mono ?_
      rintro e w1 ⟨rfl, rfl⟩
      go_wp2_with fail
      exact bodyPost_ret (v := .tuple #[.int .i64 0, .int .i64 114]) (by simp [results, Tryz.results52, go_sem]) rfl ⟨rfl, H0.out.below⟩
    · by_cases h8 : v.length = 8
      · have h6 : ((v.length : Int) != 8) = false := by rw [bne_eq_false_iff_eq]; omega
        have h7 : (4611686018427387904 : Int) < x := by omega
        clear h8
        go_enter Tryz.func52, Tryz.ntmps52
        go_wp2_with fail
        refine R.out.mono ?_
        rintro e w1 ⟨rfl, rfl⟩
        go_wp2_with fail
        exact bodyPost_ret (v := .tuple #[.int .i64 0, .int .i64 114]) (by simp [results, Tryz.results52, go_sem]) rfl ⟨rfl, H0.out.below⟩
      · have h6 : ((v.length : Int) != 8) = true := by rw [bne_iff_ne]; omega
        clear h8
        go_enter Tryz.func52, Tryz.ntmps52
        go_wp2_with fail
        refine R.out.mono ?_
        rintro e w1 ⟨rfl, rfl⟩
        go_wp2_with fail
        exact bodyPost_ret (v := .tuple #[.int .i64 0, .int .i64 114]) (by simp [results, Tryz.results52, go_sem]) rfl ⟨rfl, H0.out.below⟩
  · have h8 : v.length = 8 := by omega
    have h9 : rdAt v 0 8 ≤ 4611686018427387904 := by omega
    rw [asInt_small (by omega)]
    generalize rdAt v 0 8 = x at *
    clear hbad
    have P : Hid (∀ w, Calls Tryz.prog 91 #[.int .i64 (x : Int)] w (RowRet w (putBoots x).1 (putBoots x).2.1 (putBoots x).2.2)) := Lib.hid (fun w => refPutBoots_any _ w (by omega))
    have h0 : (putBoots x).2.2 = 0 := by unfold putBoots; rw [if_neg (by omega)]
    generalize putBoots x = p at *
    obtain ⟨k', v', code⟩ := p
    dsimp only at P h0
    subst h0
    have h6 : ((v.length : Int) != 8) = false := by rw [bne_eq_false_iff_eq]; omega
    have h7 : ¬ (4611686018427387904 : Int) < x := by omega
    clear h8
    go_enter Tryz.func52, Tryz.ntmps52
    go_wp2_with fail
    refine R.out.mono ?_
    rintro e w1 ⟨rfl, rfl⟩
    go_wp2_with fail
    refine (P.out _).mono ?_
    rintro e w4 ⟨v1, v2, rfl, o1, o2, hb4⟩
    obtain ⟨A1, c1, rfl, q1⟩ := o1.bs
    obtain ⟨A2, c2, rfl, q2⟩ := o2.bs
    have hb5 := below_alloc hb4 (.cells #[.slice A1 k'.length c1, .slice A2 v'.length c2] 47)
    have hb6 := below_alloc (Below.refl w4.heap.size w4) (.cells #[.slice A1 k'.length c1, .slice A2 v'.length c2] 47)
    have S := Lib.hid (sameRow A1 A2 A B c1 c2 c d k' v' k v _ (q1.below hb6) (q2.below hb6) (HA.out.below hb5) (HB.out.below hb5))
    have HB4 := Lib.hid (below_step H0.out.below hb5)
    have k0 := (H0.out.step hb5).c0
    have k1 := (H0.out.step hb5).c1
    clear o1 o2 hb4 q1 q2 hb5 hb6
    by_cases hkv : k' = k ∧ v' = v
    · have hd : (decide (k' = k) && decide (v' = v)) = true := by simp [hkv.1, hkv.2]
      rw [hd] at S
      have HE : Hid (Value.tuple #[Value.int .i64 x, .int .i64 0] = readAs (k', v', 0) k v (.int .i64 x) (.int .i64 0)) := Lib.hid (if_pos ⟨rfl, hkv.1, hkv.2⟩).symm
      clear hkv hd
      go_wp2_with fail
      refine S.out.mono ?_
      rintro e w5 ⟨rfl, hb5⟩
      have HB5 := Lib.hid (below_step HB4.out hb5)
      clear hb5
      go_wp2_with fail
      exact bodyPost_ret (v := .tuple #[.int .i64 x, .int .i64 0]) (by simp [results, Tryz.results52, go_sem]) rfl ⟨by rw [← HE.out], HB5.out⟩
    · have hd : (decide (k' = k) && decide (v' = v)) = false := by
        rw [Bool.and_eq_false_iff]
        by_cases h : k' = k
        · exact .inr (decide_eq_false (fun h' => hkv ⟨h, h'⟩))
        · exact .inl (decide_eq_false h)
      rw [hd] at S
      have HE : Hid (Value.tuple #[Value.int .i64 0, .int .i64 114] = readAs (k', v', 0) k v (.int .i64 x) (.int .i64 0)) := Lib.hid (if_neg (fun h => hkv h.2)).symm
      clear hkv hd
      go_wp2_with fail
      refine S.out.mono ?_
      rintro e w5 ⟨rfl, hb5⟩
      have HB5 := Lib.hid (below_step HB4.out hb5)
      clear hb5
      go_wp2_with fail
      exact bodyPost_ret (v := .tuple #[.int .i64 0, .int .i64 114]) (by simp [results, Tryz.results52, go_sem]) rfl ⟨by rw [← HE.out], HB5.out⟩
end Go.Proofs.YtafdhccdjbfepaaGreat.Help
/- Lanes as plain data; the append of a list of bytes. -/
namespace Go.Proofs.YtafdhccdjbfepaaGreat.Help
open Go.RowKit Go.Proofs.YtafdhccdjbfepaaGreat.K
set_option linter.unusedVariables false

/-- a lane's data -/
structure LaneD where
  key : List UInt8
  side : Int
  cur : Int
  next : Int
  sc : Nat
  ceil : Nat
  sec : Int
  nano : Int
def laneV (A : Option Addr) (c : Nat) (d : LaneD) : Value :=
  .agg #[.slice A d.key.length c, .int .i64 d.side, .int .i64 d.cur, .int .i64 d.next, .int .u64 (d.sc : Int), .int .u64 (d.ceil : Int), .int .i64 d.sec, .int .i64 d.nano]
/-- the bounds of the numbers -/
structure LaneB (d : LaneD) : Prop where
  sc : d.sc < 18446744073709551616
  ceil : d.ceil < 18446744073709551616
  sec : d.sec ≤ 9223372036854775807
def laneOk (d : LaneD) : Prop := d.key.length = 32 ∧ (d.side = 0 ∨ d.side = 1) ∧ 1 ≤ d.cur ∧ d.cur ≤ 2147483647 ∧ 0 ≤ d.next ∧ d.next ≤ 2147483647 ∧ stV d.sec d.nano = true
instance (d : LaneD) : Decidable (laneOk d) := by unfold laneOk; infer_instance
def laneVal (side cur next sc ceil sec nano : Nat) : List UInt8 := (((([UInt8.ofNat side] ++ be 4 cur) ++ be 4 next) ++ be 8 sc) ++ be 8 ceil) ++ stPut sec nano
theorem laneVal_len (side cur next sc ceil sec nano : Nat) : (laneVal side cur next sc ceil sec nano).length = 37 := by simp [laneVal, be_len, stPut]
def putLane (d : LaneD) : List UInt8 × List UInt8 × Int :=
  if laneOk d then ([76] ++ d.key, laneVal d.side.toNat d.cur.toNat d.next.toNat d.sc d.ceil d.sec.toNat d.nano.toNat, 0) else ([], [], 114)
theorem putLane_no {d : LaneD} (h : ¬ laneOk d) : putLane d = ([], [], 114) := if_neg h
theorem putLane_yes {d : LaneD} (h : laneOk d) : putLane d = ([76] ++ d.key, laneVal d.side.toNat d.cur.toNat d.next.toNat d.sc d.ceil d.sec.toNat d.nano.toNat, 0) := if_pos h
theorem putLane_len {d : LaneD} (h : (putLane d).2.2 = 0) : (putLane d).1.length = 33 ∧ (putLane d).2.1.length = 37 := by
  by_cases h1 : laneOk d
  · rw [putLane_yes h1]; exact ⟨by simp [h1.1], laneVal_len ..⟩
  · rw [putLane_no h1] at h; cases h

theorem Own.blk_lt {w : World} {base : Nat} {v : Value} {l : List UInt8} (h : Own w base v l) {i : Nat} (hi : v.ownBlock = some i) : i < w.heap.size := by
  rcases h.1.2 with ⟨rfl, _⟩ | ⟨g, cap, cur, rfl, hb, hh, _⟩
  · simp [Value.ownBlock] at hi
  · have : g = i := by simpa [Value.ownBlock] using hi
    subst this
    exact K.blk_lt hh
section
variable {ops : Array Oper} {rest : List Oper} {o : Oper} {a : Act} {Q : Exit → Act → World → Prop}
/-- append(v, m...), v a slice of bytes of the call's own, from block B on; m not empty -/
theorem push_many {B : Nat} {W0 W : World} (hgd : o.guard = none) (s x : Operand)
    (ho : o.op = .call { callee := .builtin .append, args := #[s, x], argTypes := #[33, 33] })
    (v : Value) (l m : List UInt8) (A : Option Addr) (mc : Nat) (hs : a.eval s = v) (hx : a.eval x = .slice A m.length mc)
    (HO : Own W B v l) (HM : Bs W A mc m) (hm : 0 < m.length) (HB : Below B W0 W) (hBW : B ≤ W.heap.size) (hl : l.length + m.length ≤ 140737488355328)
    (h : ∀ A' c' w1, Own w1 B (.slice A' (l ++ m).length c') (l ++ m) → Below B W0 w1 → Only W w1 (fun k => v.ownBlock = some k) → wpList Tryz.prog ops Q rest (a.put o.dst (.slice A' (l ++ m).length c')) w1) :
    wpList Tryz.prog ops Q (o :: rest) a W := by
  obtain ⟨i0, hi, hzz⟩ := Option.map_eq_some_iff.1 info_u8
  simp only [Prod.mk.injEq] at hzz
  obtain ⟨hz0, hz1, hz2⟩ := hzz
  obtain ⟨ad, rfl, _⟩ := HM.at_ 0 hm
  refine wpList_append_own_at W hgd s x _ ho B 5 i0 (.int .u8 0) 1 1 Tryz.underlying33 hi hz0 hz1 hz2 rfl (by omega) v l.length (u8s l) hs HO.1 ad m.length mc (u8s m) hx (by rw [u8s_len]; omega)
    (HM.cells rfl) (by intro u hu; simp only [u8s, u8, List.mem_map] at hu; obtain ⟨q, _, rfl⟩ := hu; rfl) (by simp only [maxLen]; omega) (by omega) hBW ?_
  intro v1 w1 hown hg _ hat
  have hO : Own w1 B v1 (l ++ m) := by
    refine ⟨?_, by simp; omega⟩
    rw [u8s_app]; simpa using hown
  obtain ⟨A', c', rfl, _⟩ := hO.bs
  exact h A' c' w1 hO (HB.grown hg hBW (fun k hk => HO.base_le hk)) ((Only.refl W (fun k => v.ownBlock = some k)).grown hg (fun k hk => .inl hk))
/-- the same at a step of a region that draws -/
theorem step_push {B : Nat} {W : World} {K : Act → World → Prop} {E : Prop} (hgd : o.guard = none) (s x : Operand)
    (ho : o.op = .call { callee := .builtin .append, args := #[s, x], argTypes := #[33, 33] })
    (v : Value) (l m : List UInt8) (A : Option Addr) (mc : Nat) (hs : a.eval s = v) (hx : a.eval x = .slice A m.length mc)
    (HO : Own W B v l) (HM : Bs W A mc m) (hm : 0 < m.length) (hBW : B ≤ W.heap.size) (hl : l.length + m.length ≤ 140737488355328)
    (h : ∀ A' c' w1, Own w1 B (.slice A' (l ++ m).length c') (l ++ m) → Only W w1 (fun k => v.ownBlock = some k) → K (a.put o.dst (.slice A' (l ++ m).length c')) w1) :
    if Region.wanted o (yielded ops a.tmps) = true then Oper.wp Tryz.prog o a W K Q else E := by
  obtain ⟨i0, hi, hzz⟩ := Option.map_eq_some_iff.1 info_u8
  simp only [Prod.mk.injEq] at hzz
  obtain ⟨hz0, hz1, hz2⟩ := hzz
  obtain ⟨ad, rfl, _⟩ := HM.at_ 0 hm
  refine step_append_lies W hgd s x _ ho B 5 i0 (.int .u8 0) 1 1 Tryz.underlying33 hi hz0 hz1 hz2 rfl (by omega) v l.length (u8s l) hs HO.1 ad m.length mc (u8s m) hx (by rw [u8s_len]; omega)
    (HM.cells rfl) (by intro u hu; simp only [u8s, u8, List.mem_map] at hu; obtain ⟨q, _, rfl⟩ := hu; rfl) hm (by simp only [maxLen]; omega) (by omega) hBW _ rfl ?_
  intro g cap w1 hown hg hat hlt
  have e : (l ++ m).length = l.length + m.length := by simp
  have hO : Own w1 B (.slice (some ⟨g, 0, none⟩) (l.length + m.length) cap) (l ++ m) := by
    refine ⟨?_, by simp; omega⟩
    rw [u8s_app, e]; exact hown
  rw [← e] at hO ⊢
  exact h _ cap w1 hO ((Only.refl W (fun k => v.ownBlock = some k)).grown hg (fun k hk => .inl hk))
end
end Go.Proofs.YtafdhccdjbfepaaGreat.Help
/- The walks of prefixes' small functions: width, ValidAddr, ones; Compare of numbers. -/
namespace Go.Proofs.YtafdhccdjbfepaaGreat.Pfx
open Go.RowKit Go.Proofs.YtafdhccdjbfepaaGreat.K Go.Proofs.YtafdhccdjbfepaaGreat.Help
set_option linter.unusedVariables false

/-- how many bits a family has -/
def pw (fam : Int) : Nat := if fam = 4 then 32 else if fam = 6 then 128 else 0
theorem pw_cases (fam : Int) : (fam = 4 ∧ pw fam = 32) ∨ (fam = 6 ∧ pw fam = 128) ∨ ((fam == 4) = false ∧ (fam == 6) = false ∧ pw fam = 0) := by
  unfold pw
  by_cases h1 : fam = 4
  · exact .inl ⟨h1, by rw [if_pos h1]⟩
  · by_cases h2 : fam = 6
    · exact .inr (.inl ⟨h2, by rw [if_neg h1, if_pos h2]⟩)
    · exact .inr (.inr ⟨by rw [beq_eq_false_iff_ne]; exact h1, by rw [beq_eq_false_iff_ne]; exact h2, by rw [if_neg h1, if_neg h2]⟩)
theorem width_any (fam : Int) (w : World) : Calls Tryz.prog 101 #[.int .i64 fam] w fun e w' => e = .returned (.int .i64 (pw fam : Int)) ∧ w = w' := by
  rcases pw_cases fam with ⟨rfl, e⟩ | ⟨rfl, e⟩ | ⟨h1, h2, e⟩
  all_goals
    rw [e]
    clear e
    go_enter Tryz.func101, Tryz.ntmps101
    go_wp2_with fail
    go_ret
    exact ⟨rfl, rfl⟩
theorem refBits_any (fam : Int) (w : World) : Calls Tryz.prog 117 #[.int .i64 fam] w fun e w' => e = .returned (.int .i64 (pw fam : Int)) ∧ w = w' := by
  rcases pw_cases fam with ⟨rfl, e⟩ | ⟨rfl, e⟩ | ⟨h1, h2, e⟩
  all_goals
    rw [e]
    clear e
    go_enter Tryz.func117, Tryz.ntmps117
    go_wp2_with fail
    go_ret
    exact ⟨rfl, rfl⟩
/-- may it be an address? -/
def vaB (fam : Int) (hi lo : Nat) : Bool := decide (fam = 6 ∨ (fam = 4 ∧ hi = 0 ∧ lo < 4294967296))
theorem vaB_cases (fam : Int) (hi lo : Nat) : (fam = 6 ∧ vaB fam hi lo = true) ∨ (fam = 4 ∧ ((hi : Int) == 0) = false ∧ vaB fam hi lo = false) ∨ (fam = 4 ∧ hi = 0 ∧ decide ((lo : Int) < 4294967296) = vaB fam hi lo) ∨
    ((fam == 6) = false ∧ (fam == 4) = false ∧ vaB fam hi lo = false) := by
  unfold vaB
  by_cases h1 : fam = 6
  · exact .inl ⟨h1, decide_eq_true (.inl h1)⟩
  · by_cases h2 : fam = 4
    · by_cases h3 : hi = 0
      · refine .inr (.inr (.inl ⟨h2, h3, ?_⟩))
        by_cases h4 : lo < 4294967296
        · rw [decide_eq_true (by omega), decide_eq_true (.inr ⟨h2, h3, h4⟩)]
        · rw [decide_eq_false (by omega), decide_eq_false (by rintro (h | h); exact h1 h; exact h4 h.2.2)]
      · exact .inr (.inl ⟨h2, by rw [beq_eq_false_iff_ne]; omega, decide_eq_false (by rintro (h | h); exact h1 h; exact h3 h.2.1)⟩)
    · exact .inr (.inr (.inr ⟨by rw [beq_eq_false_iff_ne]; exact h1, by rw [beq_eq_false_iff_ne]; exact h2, decide_eq_false (by rintro (h | h); exact h1 h; exact h2 h.1)⟩))
theorem validAddr_any (fam : Int) (hi lo : Nat) (w : World) : Calls Tryz.prog 100 #[.agg #[.int .i64 fam, .int .u64 (hi : Int), .int .u64 (lo : Int)]] w (Pure w (.bool (vaB fam hi lo))) := by
  rcases vaB_cases fam hi lo with ⟨rfl, e⟩ | ⟨rfl, h, e⟩ | ⟨rfl, rfl, h⟩ | ⟨h1, h2, e⟩
  · rw [e]; clear e
    go_enter Tryz.func100, Tryz.ntmps100
    go_wp2_with fail
    go_ret
    exact ⟨rfl, below_alloc (Below.refl _ _) _⟩
  · rw [e]; clear e
    go_enter Tryz.func100, Tryz.ntmps100
    go_wp2_with fail
    go_ret
    exact ⟨rfl, below_alloc (Below.refl _ _) _⟩
  · generalize hv : vaB 4 0 lo = v at *
    have HV := Lib.hid h
    clear hv h
    go_enter Tryz.func100, Tryz.ntmps100
    go_wp2_with fail
    go_ret
    exact ⟨by rw [← HV.out]; rfl, below_alloc (Below.refl _ _) _⟩
  · rw [e]; clear e
    go_enter Tryz.func100, Tryz.ntmps100
    go_wp2_with fail
    go_ret
    exact ⟨rfl, below_alloc (Below.refl _ _) _⟩
theorem refValidAddr_any (fam : Int) (hi lo : Nat) (w : World) : Calls Tryz.prog 129 #[.agg #[.int .i64 fam, .int .u64 (hi : Int), .int .u64 (lo : Int)]] w (Pure w (.bool (vaB fam hi lo))) := by
  rcases vaB_cases fam hi lo with ⟨rfl, e⟩ | ⟨rfl, h, e⟩ | ⟨rfl, rfl, h⟩ | ⟨h1, h2, e⟩
  · rw [e]; clear e
    go_enter Tryz.func129, Tryz.ntmps129
    go_wp2_with fail
    go_ret
    exact ⟨rfl, below_alloc (Below.refl _ _) _⟩
  · rw [e]; clear e
    go_enter Tryz.func129, Tryz.ntmps129
    go_wp2_with fail
    go_ret
    exact ⟨rfl, below_alloc (Below.refl _ _) _⟩
  · generalize hv : vaB 4 0 lo = v at *
    have HV := Lib.hid h
    clear hv h
    go_enter Tryz.func129, Tryz.ntmps129
    go_wp2_with fail
    go_ret
    exact ⟨by rw [← HV.out]; rfl, below_alloc (Below.refl _ _) _⟩
  · rw [e]; clear e
    go_enter Tryz.func129, Tryz.ntmps129
    go_wp2_with fail
    go_ret
    exact ⟨rfl, below_alloc (Below.refl _ _) _⟩

/-- the order of two numbers -/
def ord (a b : Int) : Int := if a < b then -1 else if b < a then 1 else 0
theorem ord_cases (a b : Int) : (a < b ∧ ord a b = -1) ∨ (decide (a < b) = false ∧ b < a ∧ ord a b = 1) ∨ (decide (a < b) = false ∧ decide (b < a) = false ∧ ord a b = 0) := by
  unfold ord
  by_cases h1 : a < b
  · exact .inl ⟨h1, if_pos h1⟩
  · by_cases h2 : b < a
    · exact .inr (.inl ⟨decide_eq_false h1, h2, by rw [if_neg h1, if_pos h2]⟩)
    · exact .inr (.inr ⟨decide_eq_false h1, decide_eq_false h2, by rw [if_neg h1, if_neg h2]⟩)
theorem nanInt (a : Int) (w : World) : Calls Tryz.prog 127 #[.int .i64 a] w fun e w' => e = .returned (.bool false) ∧ w = w' := by
  go_enter Tryz.func127, Tryz.ntmps127
  go_wp2_with fail
  go_ret
  exact ⟨rfl, rfl⟩
theorem nanU64 (a : Int) (w : World) : Calls Tryz.prog 128 #[.int .u64 a] w fun e w' => e = .returned (.bool false) ∧ w = w' := by
  go_enter Tryz.func128, Tryz.ntmps128
  go_wp2_with fail
  go_ret
  exact ⟨rfl, rfl⟩
theorem cmpInt_any (a b : Int) (w : World) : Calls Tryz.prog 104 #[.int .i64 a, .int .i64 b] w fun e w' => e = .returned (.int .i64 (ord a b)) ∧ w = w' := by
  rcases ord_cases a b with ⟨h1, e⟩ | ⟨h1, h2, e⟩ | ⟨h1, h2, e⟩
  all_goals
    rw [e]
    clear e
    go_enter Tryz.func104, Tryz.ntmps104
    go_wp2_with (go_at_call 127; refine (nanInt _ _).mono ?_; rintro e w' ⟨rfl, rfl⟩)
    go_ret
    exact ⟨rfl, rfl⟩
theorem cmpU64_any (a b : Int) (w : World) : Calls Tryz.prog 105 #[.int .u64 a, .int .u64 b] w fun e w' => e = .returned (.int .i64 (ord a b)) ∧ w = w' := by
  rcases ord_cases a b with ⟨h1, e⟩ | ⟨h1, h2, e⟩ | ⟨h1, h2, e⟩
  all_goals
    rw [e]
    clear e
    go_enter Tryz.func105, Tryz.ntmps105
    go_wp2_with (go_at_call 128; refine (nanU64 _ _).mono ?_; rintro e w' ⟨rfl, rfl⟩)
    go_ret
    exact ⟨rfl, rfl⟩
theorem orderInt_any (a b : Int) (w : World) : Calls Tryz.prog 131 #[.int .i64 a, .int .i64 b] w fun e w' => e = .returned (.int .i64 (ord a b)) ∧ w = w' := by
  rcases ord_cases a b with ⟨h1, e⟩ | ⟨h1, h2, e⟩ | ⟨h1, h2, e⟩
  all_goals
    rw [e]
    clear e
    go_enter Tryz.func131, Tryz.ntmps131
    go_wp2_with fail
    go_ret
    exact ⟨rfl, rfl⟩
theorem order_any (a b : Int) (w : World) : Calls Tryz.prog 132 #[.int .u64 a, .int .u64 b] w fun e w' => e = .returned (.int .i64 (ord a b)) ∧ w = w' := by
  rcases ord_cases a b with ⟨h1, e⟩ | ⟨h1, h2, e⟩ | ⟨h1, h2, e⟩
  all_goals
    rw [e]
    clear e
    go_enter Tryz.func132, Tryz.ntmps132
    go_wp2_with fail
    go_ret
    exact ⟨rfl, rfl⟩
theorem ret_u64 {a b : Int} (h : a = b) : Ending.returned (.int .u64 a) = .returned (.int .u64 b) := by rw [h]
theorem ones_wrap (n : Nat) (hn : n ≤ 64) : IntKind.u64.wrap (IntKind.u64.wrap ((2 : Int) ^ n) - 1) = ((2 ^ n - 1 : Nat) : Int) := by
  have hc : (2 : Int) ^ n = ((2 ^ n : Nat) : Int) := by push_cast; rfl
  have hp : 0 < 2 ^ n := Nat.pow_pos (by omega)
  rw [hc, IntKind.wrap_u64, IntKind.wrap_u64]
  rcases Nat.lt_or_ge n 64 with h | h
  · have h2 : 2 ^ n < 18446744073709551616 := by
      have := Nat.pow_lt_pow_right (a := 2) (by omega) h
      simpa using this
    omega
  · obtain rfl : n = 64 := by omega
    decide
theorem ones_any (n : Nat) (w : World) (hn : n ≤ 64) : Calls Tryz.prog 126 #[.int .i64 (n : Int)] w fun e w' => e = .returned (.int .u64 ((2 ^ n - 1 : Nat) : Int)) ∧ w = w' := by
  have HW := Lib.hid (ones_wrap n hn)
  go_enter Tryz.func126, Tryz.ntmps126
  go_wp2_with fail
  go_ret
  exact ⟨ret_u64 HW.out, rfl⟩
end Go.Proofs.YtafdhccdjbfepaaGreat.Pfx
/- Plain: bits of prefixes. -/
namespace Go.Proofs.YtafdhccdjbfepaaGreat.Pfx
open Go.RowKit Go.Proofs.YtafdhccdjbfepaaGreat.K Go.Proofs.YtafdhccdjbfepaaGreat.Help
set_option linter.unusedVariables false

theorem bclr_ones {a k : Nat} (ha : a < 18446744073709551616) (hk : k ≤ 64) : bclr a (2 ^ k - 1) = a - a % 2 ^ k := by
  have h1 : a - a % 2 ^ k = (a >>> k) <<< k := by
    rw [Nat.shiftRight_eq_div_pow, Nat.shiftLeft_eq]
    have := Nat.div_add_mod a (2 ^ k)
    rw [Nat.mul_comm] at this
    omega
  have hp : 2 ^ k ≤ 18446744073709551616 := by
    have := Nat.pow_le_pow_right (n := 2) (by omega) hk
    simpa using this
  have hp0 : 0 < 2 ^ k := Nat.pow_pos (by omega)
  have h2 : 18446744073709551615 - (2 ^ k - 1) = (2 ^ (64 - k) - 1) <<< k := by
    rw [Nat.shiftLeft_eq, Nat.sub_mul, ← Nat.pow_add, show 64 - k + k = 64 by omega]
    omega
  unfold bclr
  rw [h1, h2]
  apply Nat.eq_of_testBit_eq
  intro i
  rw [Nat.testBit_and, Nat.testBit_shiftLeft, Nat.testBit_shiftLeft, Nat.testBit_shiftRight, Nat.testBit_two_pow_sub_one]
  by_cases hi : k ≤ i
  · rw [show k + (i - k) = i by omega]
    cases hb : a.testBit i
    · simp
    · have : i < 64 := by
        rcases Nat.lt_or_ge i 64 with h | h
        · exact h
        · rw [Nat.testBit_lt_two_pow (Nat.lt_of_lt_of_le ha (by have := Nat.pow_le_pow_right (n := 2) (by omega) h; simpa using this))] at hb
          cases hb
      have h3 : i - k < 64 - k := by omega
      simp [hi, h3]
  · simp [hi]
theorem bclr_ones_eq {a k : Nat} (ha : a < 18446744073709551616) (hk : k ≤ 64) : bclr a (2 ^ k - 1) = a ↔ a % 2 ^ k = 0 := by
  rw [bclr_ones ha hk]
  have := Nat.mod_le a (2 ^ k)
  omega
theorem ones_lt {k : Nat} (hk : k ≤ 64) : 2 ^ k - 1 < 18446744073709551616 := by
  have := Nat.pow_le_pow_right (n := 2) (by omega) hk
  have h2 : (2 : Nat) ^ 64 = 18446744073709551616 := by decide
  omega
/-- may it be a prefix? -/
def pvB (fam : Int) (hi lo : Nat) (bits : Int) : Bool :=
  vaB fam hi lo && decide (0 ≤ bits) && decide (bits ≤ pw fam) && (if fam = 4 then decide (lo % 2 ^ (32 - bits.toNat) = 0) else decide (hi % 2 ^ (64 - min bits.toNat 64) = 0) && decide (lo % 2 ^ (128 - max bits.toNat 64) = 0))
theorem vaB_fam {fam : Int} {hi lo : Nat} (h : vaB fam hi lo = true) : fam = 4 ∨ fam = 6 := by
  have := of_decide_eq_true h
  rcases this with h | h
  · exact .inr h
  · exact .inl h.1
end Go.Proofs.YtafdhccdjbfepaaGreat.Pfx
/- The walk of PutLane. -/
namespace Go.Proofs.YtafdhccdjbfepaaGreat.Help
open Go.RowKit Go.Proofs.YtafdhccdjbfepaaGreat.K
set_option linter.unusedVariables false

/-- the box of a struct that came in by value -/
structure Box (t : TypeId) (w w' : World) (cs : Array Value) : Prop where
  b : w'.heap[w.heap.size]? = some (.cells cs t (0, 0))
  below : Below w.heap.size w w'
section
variable {t : TypeId} {w w' w2 : World} {cs : Array Value}
theorem Box.start (t : TypeId) (w : World) (cs : Array Value) : Box t w (w.alloc (.cells cs t)) cs := ⟨blk_new _ _, below_alloc (Below.refl _ _) _⟩
theorem Box.step (h : Box t w w' cs) (hb : Below w'.heap.size w' w2) : Box t w w2 cs := ⟨(hb.block _ (blk_lt h.b)).trans h.b, below_step h.below hb⟩
theorem Box.drewN (h : Box t w w' cs) (n : Nat) : Box t w (w'.drewN n) cs := ⟨h.b, below_drewN h.below n⟩
theorem Box.alloc (h : Box t w w' cs) (o : Obj) : Box t w (w'.alloc o) cs := h.step (below_alloc (Below.refl _ _) o)
theorem Box.only {T : Nat → Prop} (h : Box t w w' cs) (k : Only w' w2 T) (hT : ∀ i, T i → w.heap.size < i) : Box t w w2 cs :=
  ⟨k.blk h.b (fun h2 => by have := hT _ h2; omega), below_only h.below k (fun i hi => Nat.le_of_lt (hT i hi))⟩
theorem Box.cell (h : Box t w w' cs) (j : Nat) : w'.cell? ⟨w.heap.size, j, none⟩ = cs[j]? := blk_cell h.b j
theorem Box.free (h : Box t w w' cs) (j : Nat) : w'.frozen? ⟨w.heap.size, j, none⟩ = false := blk_free h.b j
theorem Box.bs (h : Box t w w' cs) {A : Option Addr} {c : Nat} {l : List UInt8} (hs : Bs w A c l) : Bs w' A c l := hs.below h.below
theorem Box.lt (h : Box t w w' cs) : w.heap.size < w'.heap.size := blk_lt h.b
end
/-- two boxes: the struct that came in, and the row that is answered -/
structure LnS (t : TypeId) (w w' : World) (cs : Array Value) : Prop where
  b : w'.heap[w.heap.size]? = some (.cells cs t (0, 0))
  r : w'.heap[w.heap.size + 1]? = some (.cells #[.slice none 0 0, .slice none 0 0] 47 (0, 0))
  below : Below w.heap.size w w'
section
variable {t : TypeId} {w w' w2 : World} {cs : Array Value}
theorem LnS.start (t : TypeId) (w : World) (cs : Array Value) : LnS t w ((w.alloc (.cells cs t)).alloc (.cells #[.slice none 0 0, .slice none 0 0] 47)) cs :=
  ⟨blk_alloc (blk_new _ _) _, by have := blk_new (w.alloc (.cells cs t)) (.cells #[.slice none 0 0, .slice none 0 0] 47); simpa using this, below_alloc (below_alloc (Below.refl _ _) _) _⟩
theorem LnS.step (h : LnS t w w' cs) (hb : Below w'.heap.size w' w2) : LnS t w w2 cs := ⟨(hb.block _ (blk_lt h.b)).trans h.b, (hb.block _ (blk_lt h.r)).trans h.r, below_step h.below hb⟩
theorem LnS.drewN (h : LnS t w w' cs) (n : Nat) : LnS t w (w'.drewN n) cs := ⟨h.b, h.r, below_drewN h.below n⟩
theorem LnS.alloc (h : LnS t w w' cs) (o : Obj) : LnS t w (w'.alloc o) cs := h.step (below_alloc (Below.refl _ _) o)
theorem LnS.only {T : Nat → Prop} (h : LnS t w w' cs) (k : Only w' w2 T) (hT : ∀ i, T i → w.heap.size + 1 < i) : LnS t w w2 cs :=
  ⟨k.blk h.b (fun h2 => by have := hT _ h2; omega), k.blk h.r (fun h2 => by have := hT _ h2; omega), below_only h.below k (fun i hi => by have := hT i hi; omega)⟩
theorem LnS.cell (h : LnS t w w' cs) (j : Nat) : w'.cell? ⟨w.heap.size, j, none⟩ = cs[j]? := blk_cell h.b j
theorem LnS.bs (h : LnS t w w' cs) {A : Option Addr} {c : Nat} {l : List UInt8} (hs : Bs w A c l) : Bs w' A c l := hs.below h.below
theorem LnS.lt (h : LnS t w w' cs) : w.heap.size + 1 < w'.heap.size := blk_lt h.r
end
theorem row_done0 {t : TypeId} {w w1 : World} {cs : Array Value} (h : LnS t w w1 cs) :
    Below w.heap.size w ((w1.setCell ⟨w.heap.size + 1, 0, none⟩ (.slice none 0 0)).setCell ⟨w.heap.size + 1, 1, none⟩ (.slice none 0 0)) :=
  (h.below.setCell (p := ⟨w.heap.size + 1, 0, none⟩) (by simp) _).setCell (p := ⟨w.heap.size + 1, 1, none⟩) (by simp) _
/-- the two cells of a result behind a box -/
theorem row_done1 {t : TypeId} {w w2 : World} {cs : Array Value} (h : LnS t w w2 cs) {A B : Option Addr} {a b c d : Nat} {k v : List UInt8} (h1 : Own w2 (w.heap.size + 2) (.slice A a c) k) (h2 : Own w2 (w.heap.size + 2) (.slice B b d) v) (code : Int) :
    RowRet w k v code (.returned (.tuple #[.agg #[.slice A a c, .slice B b d], .int .i64 code])) ((w2.setCell ⟨w.heap.size + 1, 0, none⟩ (.slice A a c)).setCell ⟨w.heap.size + 1, 1, none⟩ (.slice B b d)) := by
  have ho : Only w2 ((w2.setCell ⟨w.heap.size + 1, 0, none⟩ (.slice A a c)).setCell ⟨w.heap.size + 1, 1, none⟩ (.slice B b d)) (fun k => k = w.heap.size + 1) :=
    ((Only.refl w2 (fun k => k = w.heap.size + 1)).setCell (p := ⟨w.heap.size + 1, 0, none⟩) (.inl rfl) _).setCell (p := ⟨w.heap.size + 1, 1, none⟩) (.inl rfl) _
  refine ⟨_, _, rfl, (h1.only ho (fun i hi e => ?_)).mono (by omega), (h2.only ho (fun i hi e => ?_)).mono (by omega), below_only h.below ho (fun i hi => by rw [hi]; omega)⟩
  · have := h1.base_le hi; omega
  · have := h2.base_le hi; omega
/-- ways in which a lane may not be put -/
theorem lane_cases (d : LaneD) : (((d.key.length : Int) != 32) = true ∧ putLane d = ([], [], 114)) ∨ (((d.key.length : Int) != 32) = false ∧ d.side ≠ 0 ∧ d.side ≠ 1 ∧ putLane d = ([], [], 114)) ∨
    (((d.key.length : Int) != 32) = false ∧ (d.side = 0 ∨ d.side = 1) ∧ (
      (d.cur < 1 ∧ putLane d = ([], [], 114)) ∨ (1 ≤ d.cur ∧ 2147483647 < d.cur ∧ putLane d = ([], [], 114)) ∨
      (1 ≤ d.cur ∧ d.cur ≤ 2147483647 ∧ d.next < 0 ∧ putLane d = ([], [], 114)) ∨ (1 ≤ d.cur ∧ d.cur ≤ 2147483647 ∧ 0 ≤ d.next ∧ 2147483647 < d.next ∧ putLane d = ([], [], 114)) ∨
      (1 ≤ d.cur ∧ d.cur ≤ 2147483647 ∧ 0 ≤ d.next ∧ d.next ≤ 2147483647 ∧ stV d.sec d.nano = false ∧ putLane d = ([], [], 114)))) ∨ laneOk d := by
  by_cases h : laneOk d
  · exact .inr (.inr (.inr h))
  · have hp := putLane_no h
    by_cases h1 : d.key.length = 32
    · have e1 : ((d.key.length : Int) != 32) = false := by rw [bne_eq_false_iff_eq]; omega
      by_cases h2 : d.side = 0 ∨ d.side = 1
      · refine .inr (.inr (.inl ⟨e1, h2, ?_⟩))
        by_cases h3 : d.cur < 1
        · exact .inl ⟨h3, hp⟩
        by_cases h4 : 2147483647 < d.cur
        · exact .inr (.inl ⟨by omega, h4, hp⟩)
        by_cases h5 : d.next < 0
        · exact .inr (.inr (.inl ⟨by omega, by omega, h5, hp⟩))
        by_cases h6 : 2147483647 < d.next
        · exact .inr (.inr (.inr (.inl ⟨by omega, by omega, by omega, h6, hp⟩)))
        · refine .inr (.inr (.inr (.inr ⟨by omega, by omega, by omega, by omega, ?_, hp⟩)))
          cases hv : stV d.sec d.nano
          · rfl
          · exact absurd ⟨h1, h2, by omega, by omega, by omega, by omega, hv⟩ h
      · exact .inr (.inl ⟨e1, fun e => h2 (.inl e), fun e => h2 (.inr e), hp⟩)
    · exact .inl ⟨by rw [bne_iff_ne]; omega, hp⟩

set_option maxRecDepth 100000 in
set_option maxHeartbeats 1000000 in
theorem putLane_any (A : Option Addr) (c : Nat) (d : LaneD) (w : World) (hs : Bs w A c d.key) (hd : LaneB d) :
    Calls Tryz.prog 18 #[laneV A c d] w (RowRet w (putLane d).1 (putLane d).2.1 (putLane d).2.2) := by
  obtain ⟨key, side, cur, next, sc, ceil, sec, nano⟩ := d
  unfold laneV
  have hcs := lane_cases ⟨key, side, cur, next, sc, ceil, sec, nano⟩
  obtain ⟨b1, b2, b3⟩ := hd
  dsimp only at *
  have hmx := hs.max
  have HSEC := Lib.hid b3
  clear b3
  rcases hcs with ⟨g1, e⟩ | ⟨g1, g2, g3, e⟩ | ⟨g1, g2, h⟩ | hok
  · rw [e]
    clear e hs b1 b2
    generalize key.length = n at *
    go_enter Tryz.func18, Tryz.ntmps18
    go_wp2_with fail
    exact bodyPost_ret (v := .tuple #[.agg #[.slice none 0 0, .slice none 0 0], .int .i64 114]) (by simp [results, Tryz.results18, go_sem]) rfl ⟨_, _, rfl, Own.nil _ _, Own.nil _ _, below_alloc (below_alloc (Below.refl _ _) _) _⟩
  · rw [e]
    clear e hs b1 b2
    generalize key.length = n at *
    go_enter Tryz.func18, Tryz.ntmps18
    go_wp2_with fail
    exact bodyPost_ret (v := .tuple #[.agg #[.slice none 0 0, .slice none 0 0], .int .i64 114]) (by simp [results, Tryz.results18, go_sem]) rfl ⟨_, _, rfl, Own.nil _ _, Own.nil _ _, below_alloc (below_alloc (Below.refl _ _) _) _⟩
  · clear hs
    generalize key.length = n at *
    rcases g2 with rfl | rfl
    all_goals
      rcases h with ⟨g3, e⟩ | ⟨g3, g4, e⟩ | ⟨g3, g4, g5, e⟩ | ⟨g3, g4, g5, g6, e⟩ | ⟨g3, g4, g5, g6, hv, e⟩
      all_goals rw [e]
      all_goals clear e
      · go_enter Tryz.func18, Tryz.ntmps18
        go_wp2_with fail
        exact bodyPost_ret (v := .tuple #[.agg #[.slice none 0 0, .slice none 0 0], .int .i64 114]) (by simp [results, Tryz.results18, go_sem]) rfl ⟨_, _, rfl, Own.nil _ _, Own.nil _ _, below_alloc (below_alloc (Below.refl _ _) _) _⟩
      · go_enter Tryz.func18, Tryz.ntmps18
        go_wp2_with fail
        exact bodyPost_ret (v := .tuple #[.agg #[.slice none 0 0, .slice none 0 0], .int .i64 114]) (by simp [results, Tryz.results18, go_sem]) rfl ⟨_, _, rfl, Own.nil _ _, Own.nil _ _, below_alloc (below_alloc (Below.refl _ _) _) _⟩
      · go_enter Tryz.func18, Tryz.ntmps18
        go_wp2_with fail
        exact bodyPost_ret (v := .tuple #[.agg #[.slice none 0 0, .slice none 0 0], .int .i64 114]) (by simp [results, Tryz.results18, go_sem]) rfl ⟨_, _, rfl, Own.nil _ _, Own.nil _ _, below_alloc (below_alloc (Below.refl _ _) _) _⟩
      · go_enter Tryz.func18, Tryz.ntmps18
        go_wp2_with fail
        exact bodyPost_ret (v := .tuple #[.agg #[.slice none 0 0, .slice none 0 0], .int .i64 114]) (by simp [results, Tryz.results18, go_sem]) rfl ⟨_, _, rfl, Own.nil _ _, Own.nil _ _, below_alloc (below_alloc (Below.refl _ _) _) _⟩
      · have V := Lib.hid (fun w => stampValid sec nano w HSEC.out)
        rw [hv] at V
        have HST := Lib.hid (fun cs => LnS.start 43 w cs)
        clear hv
        go_enter Tryz.func18, Tryz.ntmps18
        go_wp2_with fail
        refine (V.out _).mono ?_
        rintro e w1 ⟨rfl, hb1⟩
        have h1 := (HST.out _).step hb1
        have r0 : w1.cell? ⟨w.heap.size + 1, 0, none⟩ = some (.slice none 0 0) := blk_cell h1.r 0
        have r1 : w1.cell? ⟨w.heap.size + 1, 1, none⟩ = some (.slice none 0 0) := blk_cell h1.r 1
        have r2 := blk_free h1.r 0
        have r3 := blk_free h1.r 1
        have f := blk_set (blk_set h1.r 0 (.slice none 0 0)) 1 (.slice none 0 0)
        have f0 := Lib.hid ((blk_cell f 0).trans (b := some (Value.slice none 0 0)) rfl)
        have f1 := Lib.hid ((blk_cell f 1).trans (b := some (Value.slice none 0 0)) rfl)
        have HB1 := Lib.hid (row_done0 h1)
        clear hb1 h1 HST f
        go_wp2_with fail
        exact bodyPost_ret (v := .tuple #[.agg #[.slice none 0 0, .slice none 0 0], .int .i64 114]) (by simp [results, Tryz.results18, go_sem, f0.out, f1.out]) rfl ⟨_, _, rfl, Own.nil _ _, Own.nil _ _, HB1.out⟩
  · obtain ⟨g1, g2, g3, g4, g5, g6, hv⟩ := hok
    dsimp only at *
    obtain ⟨cu, rfl⟩ : ∃ n : Nat, cur = n := ⟨cur.toNat, by omega⟩
    obtain ⟨ne, rfl⟩ : ∃ n : Nat, next = n := ⟨next.toNat, by omega⟩
    have hst : 0 ≤ sec ∧ 0 ≤ nano ∧ nano ≤ 999999999 := by unfold stV at hv; simp at hv; omega
    obtain ⟨se, rfl⟩ : ∃ n : Nat, sec = n := ⟨sec.toNat, by omega⟩
    obtain ⟨na, rfl⟩ : ∃ n : Nat, nano = n := ⟨nano.toNat, by omega⟩
    obtain ⟨sd, rfl, hsd⟩ : ∃ n : Nat, side = n ∧ (n = 0 ∨ n = 1) := ⟨side.toNat, by omega, by omega⟩
    rw [putLane_yes ⟨g1, by simpa using g2, g3, g4, g5, g6, hv⟩]
    have V := Lib.hid (fun w => stampValid se na w HSEC.out)
    rw [hv] at V
    have T := Lib.hid (fun w => stampPut_yes se na w (by have := HSEC.out; omega) (by omega))
    have H0 := Lib.hid (LnS.start 43 w #[.slice A key.length c, .int .i64 sd, .int .i64 cu, .int .i64 ne, .int .u64 (sc : Int), .int .u64 (ceil : Int), .int .i64 se, .int .i64 na])
    have HS := Lib.hid hs
    have HL := Lib.hid g1
    have hn : ((key.length : Int) != 32) = false := by rw [bne_eq_false_iff_eq]; omega
    clear hs hv hst g1
    have BL : Hid (∀ w1 : World, Blk (w1.alloc (.cells #[.int .u8 (sd : Int)] 5)) w1.heap.size [UInt8.ofNat sd]) := by
      intro w1
      have h := blk_new w1 (.cells #[.int .u8 (sd : Int)] 5)
      rcases hsd with rfl | rfl <;> exact h
    dsimp only
    have hsd3 : (((sd : Int) != 0) = false ∧ ((sd : Int) != 0) = ((sd : Int) != 0)) ∨ (((sd : Int) != 0) = true ∧ ((sd : Int) != 1) = false) := by
      rcases hsd with rfl | rfl
      · exact .inl ⟨rfl, rfl⟩
      · exact .inr ⟨rfl, rfl⟩
    have e1 : (sd : Int).toNat = sd := by omega
    have e2 : (cu : Int).toNat = cu := by omega
    have e3 : (ne : Int).toNat = ne := by omega
    have e4 : (se : Int).toNat = se := by omega
    have e5 : (na : Int).toNat = na := by omega
    rw [e1, e2, e3, e4, e5]
    have hsd1 : sd ≤ 1 := by omega
    have d1 : decide ((cu : Int) < 1) = false := decide_eq_false (by omega)
    have d2 : decide (2147483647 < (cu : Int)) = false := decide_eq_false (by omega)
    have d3 : decide ((ne : Int) < 0) = false := decide_eq_false (by omega)
    have d4 : decide (2147483647 < (ne : Int)) = false := decide_eq_false (by omega)
    clear e1 e2 e3 e4 e5 hsd g2
    generalize hVV : laneVal sd cu ne sc ceil se na = VV
    generalize hKK : [76] ++ key = KK
    have HV := Lib.hid hVV
    have HK := Lib.hid hKK
    clear hVV hKK
    unfold laneVal at HV
    generalize UInt8.ofNat sd = y at *
    rcases hsd3 with ⟨q1, q2⟩ | ⟨q1, q2⟩
    all_goals
      go_enter Tryz.func18, Tryz.ntmps18
      go_wp2_with fail
      refine (V.out _).mono ?_
      rintro e w1 ⟨rfl, hb1⟩
      have h1 := H0.out.step hb1
      have a0 : w1.cell? ⟨w.heap.size, 1, none⟩ = some (.int .i64 sd) := h1.cell 1
      have h2 := h1.alloc (.cells #[.int .u8 (sd : Int)] 5)
      have a1 : (w1.alloc (.cells #[.int .u8 (sd : Int)] 5)).cell? ⟨w.heap.size, 2, none⟩ = some (.int .i64 cu) := h2.cell 2
      have H1 := Lib.hid h1
      have H2 := Lib.hid h2
      clear hb1 h1 h2
      go_wp2_with fail
      refine (Bits.put_uint32 (some ⟨w1.heap.size, 0, none⟩) 1 [y] cu _ ((BL.out w1).bs (by simp)) (by simp) (by omega)).mono ?_
      rintro e w2 ⟨v2, rfl, o2, hb2⟩
      obtain ⟨A2, c2, rfl, s2⟩ := o2.bs
      have h2 := H2.out.step hb2
      have a2 : w2.cell? ⟨w.heap.size, 3, none⟩ = some (.int .i64 ne) := h2.cell 3
      have S2 := Lib.hid s2
      have H3 := Lib.hid h2
      clear s2 h2 o2 hb2 a0 a1
      have n2 : ([y] ++ be 4 cu).length ≤ 5 := by simp [be_len]
      generalize [y] ++ be 4 cu = l2 at *
      go_wp2_with fail
      refine (Bits.put_uint32 A2 c2 l2 ne _ S2.out (by omega) (by omega)).mono ?_
      rintro e w3 ⟨v3, rfl, o3, hb3⟩
      obtain ⟨A3, c3, rfl, s3⟩ := o3.bs
      have h3 := H3.out.step hb3
      have a3 : w3.cell? ⟨w.heap.size, 4, none⟩ = some (.int .u64 sc) := h3.cell 4
      have S3 := Lib.hid s3
      have H4 := Lib.hid h3
      clear s3 h3 o3 hb3 a2
      have n3 : (l2 ++ be 4 ne).length ≤ 9 := by have := n2; simp [be_len]; omega
      generalize l2 ++ be 4 ne = l3 at *
      go_wp2_with fail
      refine (Bits.put_uint64 A3 c3 l3 sc _ S3.out (by omega) (by omega)).mono ?_
      rintro e w4 ⟨v4, rfl, o4, hb4⟩
      obtain ⟨A4, c4, rfl, s4⟩ := o4.bs
      have h4 := H4.out.step hb4
      have a4 : w4.cell? ⟨w.heap.size, 5, none⟩ = some (.int .u64 ceil) := h4.cell 5
      have S4 := Lib.hid s4
      have H5 := Lib.hid h4
      clear s4 h4 o4 hb4 a3
      have n4 : (l3 ++ be 8 sc).length ≤ 17 := by have := n3; simp [be_len]; omega
      generalize l3 ++ be 8 sc = l4 at *
      go_wp2_with fail
      refine (Bits.put_uint64 A4 c4 l4 ceil _ S4.out (by omega) (by omega)).mono ?_
      rintro e w5 ⟨v5, rfl, o5, hb5⟩
      obtain ⟨A5, c5, rfl, s5⟩ := o5.bs
      have h5 := H5.out.step hb5
      have b0 : w5.cell? ⟨w.heap.size, 0, none⟩ = some (.slice A key.length c) := h5.cell 0
      have b6 : w5.cell? ⟨w.heap.size, 6, none⟩ = some (.int .i64 se) := h5.cell 6
      have b7 : w5.cell? ⟨w.heap.size, 7, none⟩ = some (.int .i64 na) := h5.cell 7
      have S5 := Lib.hid s5
      have O5 := Lib.hid o5
      have Z5 := Lib.hid hb5.size
      have H6 := Lib.hid h5
      clear s5 h5 o5 hb5 a4
      have n5 : (l4 ++ be 8 ceil).length ≤ 25 := by have := n4; simp [be_len]; omega
      generalize l4 ++ be 8 ceil = l5 at *
      go_wp2_with fail
      have OW : Hid (Own ((w5.alloc (.cells #[.int .u8 76] 5)).drew) w5.heap.size (.slice (some ⟨w5.heap.size, 0, none⟩) 1 1) [76]) :=
        ((show Blk (w5.alloc (.cells #[.int .u8 76] 5)) w5.heap.size [76] from blk_new _ _).own (Nat.le_refl _) (by decide)).drewN 1
      have L7 := Lib.hid ((H6.out.alloc (.cells #[.int .u8 76] 5)).drewN 1)
      have O6 := Lib.hid ((O5.out.below (below_alloc (Below.refl _ _) (.cells #[.int .u8 76] 5))).drewN 1)
      have hlt5 := H6.out.lt
      have O5Z := Lib.hid Z5.out
      have L5 := Lib.hid (fun i hi => Own.blk_lt O5.out (i := i) hi)
      have B5 := Lib.hid (fun i hi => Own.base_le O5.out (i := i) hi)
      have Z4 := Lib.hid H5.out.lt
      go_region_held3 (fun w' => w'.cell? ⟨w.heap.size, 0, none⟩ = some (.slice A key.length c) ∧ w'.cell? ⟨w.heap.size, 6, none⟩ = some (.int .i64 se) ∧ w'.cell? ⟨w.heap.size, 7, none⟩ = some (.int .i64 na)) (first | go_keep | exact ⟨d0, d6, d7⟩ | exact ⟨e0, e6, e7⟩ | exact ⟨f0, f6, f7⟩ | exact ⟨i0, i6, i7⟩)
        (first
        | ((refine step_push (by rfl) _ _ (by rfl) (.slice A5 l5.length c5) l5 (stPut se na) A7 c7 (by rfl) (by rfl) O8.out S7.out (by rw [stPut_len]; omega) Z8.out (by rw [stPut_len]; omega) ?_
            intro A8 c8 w8 o8 k8
            rw [HV.out] at o8 ⊢
            have h8 := L8.out.only k8 (fun i hi => Nat.lt_of_lt_of_le Z4.out (B5.out i hi))
            have g0 := h8.cell 0
            have f0 : w8.cell? ⟨w.heap.size, 0, none⟩ = some (.slice A key.length c) := g0
            have f6 : w8.cell? ⟨w.heap.size, 6, none⟩ = some (.int .i64 se) := h8.cell 6
            have f7 : w8.cell? ⟨w.heap.size, 7, none⟩ = some (.int .i64 na) := h8.cell 7
            have r0 : w8.cell? ⟨w.heap.size + 1, 0, none⟩ = some (.slice none 0 0) := blk_cell h8.r 0
            have r1 : w8.cell? ⟨w.heap.size + 1, 1, none⟩ = some (.slice none 0 0) := blk_cell h8.r 1
            have z0 := blk_free h8.r 0
            have z1 := blk_free h8.r 1
            have H8 := Lib.hid h8
            have ff := blk_set (blk_set h8.r 0 (.slice A6 KK.length c6)) 1 (.slice A8 VV.length c8)
            have fb := blk_far (blk_far h8.b (p := ⟨w.heap.size + 1, 0, none⟩) (by simp) (.slice A6 KK.length c6)) (p := ⟨w.heap.size + 1, 1, none⟩) (by simp) (.slice A8 VV.length c8)
            have j0 := Lib.hid ((blk_cell ff 0).trans (b := some (Value.slice A6 KK.length c6)) rfl)
            have j1 := Lib.hid ((blk_cell ff 1).trans (b := some (Value.slice A8 VV.length c8)) rfl)
            have i0 := (blk_cell fb 0).trans (b := some (Value.slice A key.length c)) rfl
            have i6 := (blk_cell fb 6).trans (b := some (Value.int .i64 se)) rfl
            have i7 := (blk_cell fb 7).trans (b := some (Value.int .i64 na)) rfl
            clear ff fb
            have R8 := Lib.hid o8
            have Q8 := Lib.hid (Q7.out.only k8 (fun i hi e => by have := L5.out i e; have := Q7.out.base_le hi; omega))
            clear h8 g0 o8 k8))
        | (go_at_call 37
           refine (T.out _).mono ?_
           rintro e w7 ⟨v7, rfl, o7, hb7⟩
           obtain ⟨A7, c7, rfl, s7⟩ := o7.bs
           have h7 := L6.out.step hb7
           have e0 : w7.cell? ⟨w.heap.size, 0, none⟩ = some (.slice A key.length c) := h7.cell 0
           have e6 : w7.cell? ⟨w.heap.size, 6, none⟩ = some (.int .i64 se) := h7.cell 6
           have e7 : w7.cell? ⟨w.heap.size, 7, none⟩ = some (.int .i64 na) := h7.cell 7
           have L8 := Lib.hid h7
           have O8 := Lib.hid (O7.out.below hb7)
           have Q7 := Lib.hid (Q6.out.below hb7)
           have Z8 := Lib.hid (Nat.le_trans Z7.out hb7.size)
           have S7 := Lib.hid s7
           clear h7 s7 o7 hb7)
        | ((refine step_push (by rfl) _ _ (by rfl) (.slice (some ⟨w5.heap.size, 0, none⟩) 1 1) [76] key A c (by rfl) (by rfl) OW.out (L7.out.bs HS.out) (by rw [HL.out]; omega) (by simp) (by rw [HL.out]; decide) ?_
            intro A6 c6 w6 o6 k6
            rw [HK.out] at o6 ⊢
            have h6 := L7.out.only k6 (fun i hi => by simp [Value.ownBlock] at hi; omega)
            have d0 : w6.cell? ⟨w.heap.size, 0, none⟩ = some (.slice A key.length c) := h6.cell 0
            have d6 : w6.cell? ⟨w.heap.size, 6, none⟩ = some (.int .i64 se) := h6.cell 6
            have d7 : w6.cell? ⟨w.heap.size, 7, none⟩ = some (.int .i64 na) := h6.cell 7
            have L6 := Lib.hid h6
            have Q6 := Lib.hid o6
            have O7 := Lib.hid (O6.out.only k6 (fun i hi e => by have := L5.out i hi; simp [Value.ownBlock] at e; omega))
            have Z7 : Hid (w4.heap.size ≤ w6.heap.size) := Lib.hid (Nat.le_trans (by have := O5Z.out; simp; omega) k6.size)
            clear h6 o6 k6)))
      go_wp2_with fail
      exact bodyPost_ret (v := .tuple #[.agg #[.slice A6 KK.length c6, .slice A8 VV.length c8], .int .i64 0]) (by simp [results, Tryz.results18, go_sem, j0.out, j1.out]) rfl (row_done1 H8.out (Q8.out.mono (by have := H6.out.lt; omega)) (R8.out.mono (by have := H5.out.lt; omega)) 0)
end Go.Proofs.YtafdhccdjbfepaaGreat.Help
/- The walks of prefix.cut and prefix.Valid. -/
namespace Go.Proofs.YtafdhccdjbfepaaGreat.Pfx
open Go.RowKit Go.Proofs.YtafdhccdjbfepaaGreat.K Go.Proofs.YtafdhccdjbfepaaGreat.Help
set_option linter.unusedVariables false

set_option maxRecDepth 100000 in
set_option maxHeartbeats 1000000 in
theorem cut4_any (hi lo n : Nat) (w : World) (hl : lo < 18446744073709551616) (hn : n ≤ 32) :
    Calls Tryz.prog 102 #[.agg #[.int .i64 4, .int .u64 (hi : Int), .int .u64 (lo : Int)], .int .i64 (n : Int)] w (Pure w (.agg #[.int .i64 4, .int .u64 (hi : Int), .int .u64 (bclr lo (2 ^ (32 - n) - 1) : Int)])) := by
  have T := Lib.hid (fun w => ones_any (32 - n) w (by omega))
  have hb := bclr_eq (a := lo) (b := 2 ^ (32 - n) - 1) hl (ones_lt (by omega))
  have hw : IntKind.i64.wrap (32 - (n : Int)) = ((32 - n : Nat) : Int) := by rw [IntWalk.i64_in _ (by omega)]; omega
  generalize 2 ^ (32 - n) - 1 = on at *
  generalize bclr lo on = r at *
  generalize 32 - n = m at *
  have s2 := (Box.start 108 w #[.int .i64 4, .int .u64 (hi : Int), .int .u64 (lo : Int)]).alloc (.cells #[.int .i64 0, .int .u64 0, .int .u64 0] 108) |>.cell 2
  go_enter Tryz.func102, Tryz.ntmps102
  go_wp2_with fail
  go_region_with (go_at_call 126; refine (T.out _).mono ?_; rintro e w' ⟨rfl, rfl⟩)
  all_goals
    go_wp2_with fail
    exact bodyPost_ret (v := .agg #[.int .i64 4, .int .u64 (hi : Int), .int .u64 (r : Int)]) (by simp [results, Tryz.results102, go_sem]) rfl ⟨rfl, below_drewN (below_alloc (below_alloc (Below.refl _ _) _) _) 1⟩
set_option maxRecDepth 100000 in
set_option maxHeartbeats 2000000 in
theorem cut6_any (hi lo n k1 k2 : Nat) (w : World) (hh : hi < 18446744073709551616) (hl : lo < 18446744073709551616) (hn : n ≤ 128) (e1 : k1 = 64 - min n 64) (e2 : k2 = 128 - max n 64) :
    Calls Tryz.prog 102 #[.agg #[.int .i64 6, .int .u64 (hi : Int), .int .u64 (lo : Int)], .int .i64 (n : Int)] w (Pure w (.agg #[.int .i64 6, .int .u64 (bclr hi (2 ^ k1 - 1) : Int), .int .u64 (bclr lo (2 ^ k2 - 1) : Int)])) := by
  have k1b : k1 ≤ 64 := by omega
  have k2b : k2 ≤ 64 := by omega
  have T1 : Hid (∀ (x : Int) w, x = (k1 : Int) → Calls Tryz.prog 126 #[.int .i64 x] w fun e w' => e = .returned (.int .u64 ((2 ^ k1 - 1 : Nat) : Int)) ∧ w = w') := Lib.hid (fun x w h => by rw [h]; exact ones_any k1 w k1b)
  have T2 : Hid (∀ (x : Int) w, x = (k2 : Int) → Calls Tryz.prog 126 #[.int .i64 x] w fun e w' => e = .returned (.int .u64 ((2 ^ k2 - 1 : Nat) : Int)) ∧ w = w') := Lib.hid (fun x w h => by rw [h]; exact ones_any k2 w k2b)
  have hb1 := bclr_eq (a := hi) (b := 2 ^ k1 - 1) hh (ones_lt k1b)
  have hb2 := bclr_eq (a := lo) (b := 2 ^ k2 - 1) hl (ones_lt k2b)
  generalize 2 ^ k1 - 1 = o1 at *
  generalize 2 ^ k2 - 1 = o2 at *
  generalize bclr hi o1 = r1 at *
  generalize bclr lo o2 = r2 at *
  have E1 := Lib.hid e1
  have E2 := Lib.hid e2
  clear e1 e2 k1b k2b
  rcases (show (n < 64 ∨ n = 64) ∨ 64 < n by omega) with (h64 | h64) | h64
  · have g1 : ¬ (64 : Int) < n := by omega
    have g2 : (n : Int) < 64 := by omega
    go_enter Tryz.func102, Tryz.ntmps102
    go_upto_region 4 with fail
    go_cut [22] (fun s22 wx => wx = ((w.alloc (.cells #[.int .i64 6, .int .u64 (r1 : Int), .int .u64 (lo : Int)] 108)).alloc (.cells #[.int .i64 0, .int .u64 0, .int .u64 0] 108)).drew)
    case first =>
      go_region_with (go_at_call 126; refine (T1.out _ _ (by have := E1.out; first | omega | (rw [IntWalk.i64_in _ (by omega)]; omega))).mono ?_; rintro e w' ⟨rfl, rfl⟩)
      all_goals
        go_wp2_with fail
        go_meet
        rfl
    case rest =>
      subst hcut
      go_wp2_with fail
      go_region_with (go_at_call 126; refine (T2.out _ _ (by have := E2.out; first | omega | (rw [IntWalk.i64_in _ (by omega)]; omega))).mono ?_; rintro e w' ⟨rfl, rfl⟩)
      all_goals
        go_wp2_with fail
        exact bodyPost_ret (v := .agg #[.int .i64 6, .int .u64 (r1 : Int), .int .u64 (r2 : Int)]) (by simp [results, Tryz.results102, go_sem]) rfl ⟨rfl, below_drewN (below_drewN (below_alloc (below_alloc (Below.refl _ _) _) _) 1) 1⟩
  · subst h64
    go_enter Tryz.func102, Tryz.ntmps102
    go_upto_region 4 with fail
    go_cut [22] (fun s22 wx => wx = ((w.alloc (.cells #[.int .i64 6, .int .u64 (r1 : Int), .int .u64 (lo : Int)] 108)).alloc (.cells #[.int .i64 0, .int .u64 0, .int .u64 0] 108)).drew)
    case first =>
      go_region_with (go_at_call 126; refine (T1.out _ _ (by have := E1.out; first | omega | (rw [IntWalk.i64_in _ (by omega)]; omega))).mono ?_; rintro e w' ⟨rfl, rfl⟩)
      all_goals
        go_wp2_with fail
        go_meet
        rfl
    case rest =>
      subst hcut
      go_wp2_with fail
      go_region_with (go_at_call 126; refine (T2.out _ _ (by have := E2.out; first | omega | (rw [IntWalk.i64_in _ (by omega)]; omega))).mono ?_; rintro e w' ⟨rfl, rfl⟩)
      all_goals
        go_wp2_with fail
        exact bodyPost_ret (v := .agg #[.int .i64 6, .int .u64 (r1 : Int), .int .u64 (r2 : Int)]) (by simp [results, Tryz.results102, go_sem]) rfl ⟨rfl, below_drewN (below_drewN (below_alloc (below_alloc (Below.refl _ _) _) _) 1) 1⟩
  · have g1 : (64 : Int) < n := by omega
    have g2 : ¬ (n : Int) < 64 := by omega
    go_enter Tryz.func102, Tryz.ntmps102
    go_upto_region 4 with fail
    go_cut [22] (fun s22 wx => wx = ((w.alloc (.cells #[.int .i64 6, .int .u64 (r1 : Int), .int .u64 (lo : Int)] 108)).alloc (.cells #[.int .i64 0, .int .u64 0, .int .u64 0] 108)).drew)
    case first =>
      go_region_with (go_at_call 126; refine (T1.out _ _ (by have := E1.out; first | omega | (rw [IntWalk.i64_in _ (by omega)]; omega))).mono ?_; rintro e w' ⟨rfl, rfl⟩)
      all_goals
        go_wp2_with fail
        go_meet
        rfl
    case rest =>
      subst hcut
      go_wp2_with fail
      go_region_with (go_at_call 126; refine (T2.out _ _ (by have := E2.out; first | omega | (rw [IntWalk.i64_in _ (by omega)]; omega))).mono ?_; rintro e w' ⟨rfl, rfl⟩)
      all_goals
        go_wp2_with fail
        exact bodyPost_ret (v := .agg #[.int .i64 6, .int .u64 (r1 : Int), .int .u64 (r2 : Int)]) (by simp [results, Tryz.results102, go_sem]) rfl ⟨rfl, below_drewN (below_drewN (below_alloc (below_alloc (Below.refl _ _) _) _) 1) 1⟩
end Go.Proofs.YtafdhccdjbfepaaGreat.Pfx
/- The walk of prefix.Valid. -/
namespace Go.Proofs.YtafdhccdjbfepaaGreat.Pfx
open Go.RowKit Go.Proofs.YtafdhccdjbfepaaGreat.K Go.Proofs.YtafdhccdjbfepaaGreat.Help
set_option linter.unusedVariables false

/-- a world that meets G -/
structure Cls (G : World → Prop) where
  W : World
  ok : G W
/-- a region that only reads, at the class of worlds that meet G: whatever its calls make, G holds -/
theorem wp_region_quiet_cls {P : Program} {id : Nat} {Q : Exit → Act → World → Prop} {a : Act} {w : World} {l : List Oper} (G : World → Prop) (hm : P.follows .mixedOrders = true) (hB : Region.lexB .any l.toArray = true) (hC : G { w with drawn := w.drawn + 1 })
    (h : wpQuiet P l.toArray (fun w' => ∃ p : Cls G, w' = p.W) (fun a' => ∀ w', (∃ p : Cls G, w' = p.W) → Q .normal a' w') l a) : (Code.region id l.toArray true).wp P Q a w :=
  wp_region_quiet (C := fun w' => ∃ p : Cls G, w' = p.W) hm hB ⟨⟨_, hC⟩, rfl⟩ (by simpa using h)
theorem calls_cls {P : Program} {f : FuncId} {args : Array Value} {G : World → Prop} {p : Cls G} {v : Value} (hG : ∀ W W' : World, G W → Below W.heap.size W W' → G W')
    (h : Calls P f args p.W (Pure p.W v)) : Calls P f args p.W fun e w'' => e = .returned v ∧ ∃ q : Cls G, w'' = q.W :=
  h.mono fun _ w2 ⟨he, hb⟩ => ⟨he, ⟨w2, hG _ _ p.ok hb⟩, rfl⟩
theorem pure_of_same {P : Program} {f : FuncId} {args : Array Value} {w : World} {v : Value} (h : Calls P f args w fun e w' => e = .returned v ∧ w = w') : Calls P f args w (Pure w v) :=
  h.mono fun _ _ ⟨he, hw⟩ => ⟨he, by rw [← hw]; exact Below.refl _ _⟩

theorem pvB_cases (fam : Int) (hi lo : Nat) (bits : Int) : (vaB fam hi lo = false ∧ pvB fam hi lo bits = false) ∨ (vaB fam hi lo = true ∧ decide (0 ≤ bits) = false ∧ pvB fam hi lo bits = false) ∨
    (vaB fam hi lo = true ∧ decide (0 ≤ bits) = true ∧ decide (bits ≤ (pw fam : Int)) = false ∧ pvB fam hi lo bits = false) ∨
    (vaB fam hi lo = true ∧ ∃ n : Nat, bits = n ∧ n ≤ pw fam ∧ ((fam = 4 ∧ hi = 0 ∧ lo < 4294967296 ∧ pvB fam hi lo bits = decide (lo % 2 ^ (32 - n) = 0)) ∨ (fam = 6 ∧ pvB fam hi lo bits = (decide (hi % 2 ^ (64 - min n 64) = 0) && decide (lo % 2 ^ (128 - max n 64) = 0))))) := by
  unfold pvB
  cases hv : vaB fam hi lo
  · exact .inl ⟨rfl, by simp⟩
  · by_cases h1 : 0 ≤ bits
    · by_cases h2 : bits ≤ (pw fam : Int)
      · refine .inr (.inr (.inr ⟨rfl, bits.toNat, by omega, by omega, ?_⟩))
        have hd := of_decide_eq_true hv
        rcases hd with rfl | ⟨rfl, h3, h4⟩
        · refine .inr ⟨rfl, ?_⟩
          rw [if_neg (by decide)]
          simp [h1, h2]
        · refine .inl ⟨rfl, h3, h4, ?_⟩
          rw [if_pos rfl]
          simp [h1, h2]
      · exact .inr (.inr (.inl ⟨rfl, decide_eq_true h1, decide_eq_false h2, by simp [h2]⟩))
    · exact .inr (.inl ⟨rfl, decide_eq_false h1, by simp [h1]⟩)
set_option maxRecDepth 100000 in
set_option maxHeartbeats 2000000 in
theorem valid_any (fam : Int) (hi lo : Nat) (bits : Int) (w : World) (hh : hi < 18446744073709551616) (hl : lo < 18446744073709551616) :
    Calls Tryz.prog 61 #[.agg #[.int .i64 fam, .int .u64 (hi : Int), .int .u64 (lo : Int), .int .i64 bits]] w (Pure w (.bool (pvB fam hi lo bits))) := by
  have V := Lib.hid (fun w => validAddr_any fam hi lo w)
  have WD := Lib.hid (fun w => pure_of_same (width_any fam w))
  have H0 := Lib.hid (Box.start 110 w #[.int .i64 fam, .int .u64 (hi : Int), .int .u64 (lo : Int), .int .i64 bits])
  obtain ⟨G, hGd⟩ : ∃ G : World → Prop, G = (fun W => Box 110 w W #[.int .i64 fam, .int .u64 (hi : Int), .int .u64 (lo : Int), .int .i64 bits]) := ⟨_, rfl⟩
  have hG0 : G ((w.alloc (.cells #[.int .i64 fam, .int .u64 (hi : Int), .int .u64 (lo : Int), .int .i64 bits] 110)).drewN 1) := by rw [hGd]; exact H0.out.drewN 1
  have hGi : ∀ W, G W → Box 110 w W #[.int .i64 fam, .int .u64 (hi : Int), .int .u64 (lo : Int), .int .i64 bits] := by rw [hGd]; exact fun _ h => h
  have s0 : ∀ p : Cls G, p.W.cell? ⟨w.heap.size, 0, none⟩ = some (.int .i64 fam) := fun p => (hGi _ p.ok).cell 0
  have s1 : ∀ p : Cls G, p.W.cell? ⟨w.heap.size, 1, none⟩ = some (.int .u64 (hi : Int)) := fun p => (hGi _ p.ok).cell 1
  have s2 : ∀ p : Cls G, p.W.cell? ⟨w.heap.size, 2, none⟩ = some (.int .u64 (lo : Int)) := fun p => (hGi _ p.ok).cell 2
  have s3 : ∀ p : Cls G, p.W.cell? ⟨w.heap.size, 3, none⟩ = some (.int .i64 bits) := fun p => (hGi _ p.ok).cell 3
  have GS := Lib.hid (show ∀ W W' : World, G W → Below W.heap.size W W' → G W' by rw [hGd]; exact fun _ _ h hb => h.step hb)
  have GB := Lib.hid (show ∀ p : Cls G, Below w.heap.size w p.W from fun p => (hGi _ p.ok).below)
  have hne : Nonempty (Cls G) := ⟨⟨_, hG0⟩⟩
  have HG0 := Lib.hid hG0
  clear hGd hG0 hGi
  rcases pvB_cases fam hi lo bits with ⟨hv, e⟩ | ⟨hv, h1, e⟩ | ⟨hv, h1, h2, e⟩ | ⟨hv, n, rfl, hn, h⟩
  · rw [e]
    rw [hv] at V
    clear e hv
    go_enter Tryz.func61, Tryz.ntmps61
    go_wp2_with fail
    refine wp_region_quiet_cls G (by kernel_rfl) (by kernel_rfl) HG0.out ?_
    repeat (go_big_quiet_step ((first | (go_at_call 100; exact calls_cls GS.out (V.out _)) | (go_at_call 101; exact calls_cls GS.out (WD.out _)))))
    refine wpQuiet_nil ?_
    intro _ hw'
    obtain ⟨nq, hw''⟩ := hw'
    subst hw''
    go_wp2_with fail
    go_ret
    exact ⟨rfl, GB.out nq⟩
  · rw [e]
    rw [hv] at V
    clear e hv
    go_enter Tryz.func61, Tryz.ntmps61
    go_wp2_with fail
    refine wp_region_quiet_cls G (by kernel_rfl) (by kernel_rfl) HG0.out ?_
    repeat (go_big_quiet_step ((first | (go_at_call 100; exact calls_cls GS.out (V.out _)) | (go_at_call 101; exact calls_cls GS.out (WD.out _)))))
    refine wpQuiet_nil ?_
    intro _ hw'
    obtain ⟨nq, hw''⟩ := hw'
    subst hw''
    go_wp2_with fail
    go_ret
    exact ⟨rfl, GB.out nq⟩
  · rw [e]
    rw [hv] at V
    clear e hv
    go_enter Tryz.func61, Tryz.ntmps61
    go_wp2_with fail
    refine wp_region_quiet_cls G (by kernel_rfl) (by kernel_rfl) HG0.out ?_
    repeat (go_big_quiet_step ((first | (go_at_call 100; exact calls_cls GS.out (V.out _)) | (go_at_call 101; exact calls_cls GS.out (WD.out _)))))
    refine wpQuiet_nil ?_
    intro _ hw'
    obtain ⟨nq, hw''⟩ := hw'
    subst hw''
    go_wp2_with fail
    go_ret
    exact ⟨rfl, GB.out nq⟩
  · rw [hv] at V
    clear hv
    have h0 : decide ((0 : Int) ≤ (n : Int)) = true := decide_eq_true (by omega)
    have h1 : decide ((n : Int) ≤ (pw fam : Int)) = true := decide_eq_true (by omega)
    rcases h with ⟨rfl, rfl, h4, e⟩ | ⟨rfl, e⟩
    · have hn2 : n ≤ 32 := hn
      have C := Lib.hid (fun w => cut4_any 0 lo n w hl hn2)
      have HB := bclr_ones_eq (a := lo) (k := 32 - n) hl (by omega)
      generalize bclr lo (2 ^ (32 - n) - 1) = r at *
      rw [e]
      clear e
      by_cases hr : r = lo
      · rw [decide_eq_true (HB.1 hr)]
        have hr1 : (r : Int) = (lo : Int) := by omega
        clear HB hr
        go_enter Tryz.func61, Tryz.ntmps61
        go_wp2_with fail
        refine wp_region_quiet_cls G (by kernel_rfl) (by kernel_rfl) HG0.out ?_
        repeat (go_big_quiet_step ((first | (go_at_call 100; exact calls_cls GS.out (V.out _)) | (go_at_call 101; exact calls_cls GS.out (WD.out _)) | (go_at_call 102; exact calls_cls GS.out (C.out _)))))
        refine wpQuiet_nil ?_
        intro _ hw'
        obtain ⟨nq, hw''⟩ := hw'
        subst hw''
        go_wp2_with fail
        go_ret
        exact ⟨rfl, GB.out nq⟩
      · rw [decide_eq_false (fun h => hr (HB.2 h))]
        have hr1 : ¬ (r : Int) = (lo : Int) := by omega
        clear HB hr
        go_enter Tryz.func61, Tryz.ntmps61
        go_wp2_with fail
        refine wp_region_quiet_cls G (by kernel_rfl) (by kernel_rfl) HG0.out ?_
        repeat (go_big_quiet_step ((first | (go_at_call 100; exact calls_cls GS.out (V.out _)) | (go_at_call 101; exact calls_cls GS.out (WD.out _)) | (go_at_call 102; exact calls_cls GS.out (C.out _)))))
        refine wpQuiet_nil ?_
        intro _ hw'
        obtain ⟨nq, hw''⟩ := hw'
        subst hw''
        go_wp2_with fail
        go_ret
        exact ⟨rfl, GB.out nq⟩
    · have hn2 : n ≤ 128 := hn
      have C := Lib.hid (fun w => cut6_any hi lo n _ _ w hh hl hn2 rfl rfl)
      have HB1 := bclr_ones_eq (a := hi) (k := 64 - min n 64) hh (by omega)
      have HB2 := bclr_ones_eq (a := lo) (k := 128 - max n 64) hl (by omega)
      generalize bclr hi (2 ^ (64 - min n 64) - 1) = r1 at *
      generalize bclr lo (2 ^ (128 - max n 64) - 1) = r2 at *
      rw [e]
      clear e
      by_cases hr1 : r1 = hi
      · by_cases hr2 : r2 = lo
        · rw [decide_eq_true (HB1.1 hr1), decide_eq_true (HB2.1 hr2)]
          have e1 : (r1 : Int) = (hi : Int) := by omega
          have e2 : (r2 : Int) = (lo : Int) := by omega
          clear HB1 HB2 hr1 hr2
          go_enter Tryz.func61, Tryz.ntmps61
          go_wp2_with fail
          refine wp_region_quiet_cls G (by kernel_rfl) (by kernel_rfl) HG0.out ?_
          repeat (go_big_quiet_step ((first | (go_at_call 100; exact calls_cls GS.out (V.out _)) | (go_at_call 101; exact calls_cls GS.out (WD.out _)) | (go_at_call 102; exact calls_cls GS.out (C.out _)))))
          refine wpQuiet_nil ?_
          intro _ hw'
          obtain ⟨nq, hw''⟩ := hw'
          subst hw''
          go_wp2_with fail
          go_ret
          exact ⟨rfl, GB.out nq⟩
        · rw [decide_eq_true (HB1.1 hr1), decide_eq_false (fun h => hr2 (HB2.2 h))]
          have e1 : (r1 : Int) = (hi : Int) := by omega
          have e2 : ¬ (r2 : Int) = (lo : Int) := by omega
          clear HB1 HB2 hr1 hr2
          go_enter Tryz.func61, Tryz.ntmps61
          go_wp2_with fail
          refine wp_region_quiet_cls G (by kernel_rfl) (by kernel_rfl) HG0.out ?_
          repeat (go_big_quiet_step ((first | (go_at_call 100; exact calls_cls GS.out (V.out _)) | (go_at_call 101; exact calls_cls GS.out (WD.out _)) | (go_at_call 102; exact calls_cls GS.out (C.out _)))))
          refine wpQuiet_nil ?_
          intro _ hw'
          obtain ⟨nq, hw''⟩ := hw'
          subst hw''
          go_wp2_with fail
          go_ret
          exact ⟨rfl, GB.out nq⟩
      · rw [decide_eq_false (fun h => hr1 (HB1.2 h)), Bool.false_and]
        have e1 : ¬ (r1 : Int) = (hi : Int) := by omega
        clear HB1 HB2 hr1
        go_enter Tryz.func61, Tryz.ntmps61
        go_wp2_with fail
        refine wp_region_quiet_cls G (by kernel_rfl) (by kernel_rfl) HG0.out ?_
        repeat (go_big_quiet_step ((first | (go_at_call 100; exact calls_cls GS.out (V.out _)) | (go_at_call 101; exact calls_cls GS.out (WD.out _)) | (go_at_call 102; exact calls_cls GS.out (C.out _)))))
        refine wpQuiet_nil ?_
        intro _ hw'
        obtain ⟨nq, hw''⟩ := hw'
        subst hw''
        go_wp2_with fail
        go_ret
        exact ⟨rfl, GB.out nq⟩
end Go.Proofs.YtafdhccdjbfepaaGreat.Pfx
/- The walks of the program's PutAddr and Put. -/
namespace Go.Proofs.YtafdhccdjbfepaaGreat.Pfx
open Go.RowKit Go.Proofs.YtafdhccdjbfepaaGreat.K Go.Proofs.YtafdhccdjbfepaaGreat.Help
set_option linter.unusedVariables false

/-- an address's bytes -/
def paBytes (fam : Int) (hi lo : Nat) : List UInt8 := if fam = 4 then be 4 lo else be 8 hi ++ be 8 lo
set_option maxRecDepth 100000 in
set_option maxHeartbeats 1000000 in
theorem putAddr_any (fam : Int) (hi lo : Nat) (w : World) (hh : hi < 18446744073709551616) (hl : lo < 18446744073709551616) (hv : vaB fam hi lo = true) :
    Calls Tryz.prog 106 #[.agg #[.int .i64 fam, .int .u64 (hi : Int), .int .u64 (lo : Int)]] w (Ret w (paBytes fam hi lo)) := by
  have V := Lib.hid (fun w => validAddr_any fam hi lo w)
  rw [hv] at V
  have H0 := Lib.hid (Box.start 108 w #[.int .i64 fam, .int .u64 (hi : Int), .int .u64 (lo : Int)])
  have hd := of_decide_eq_true hv
  clear hv
  rcases hd with rfl | ⟨rfl, rfl, hl4⟩
  · rw [show paBytes 6 hi lo = be 8 hi ++ be 8 lo from if_neg (by decide)]
    have P1 := Lib.hid (fun w => Bits.put_uint64 none 0 [] hi w (Bs.nil _ _ _) (by simp) hh)
    have P2 := Lib.hid (fun A c w h => Bits.put_uint64 A c ([] ++ be 8 hi) lo w h (by simp [be_len]) hl)
    have hll : ([] ++ be 8 hi).length = 8 := by simp [be_len]
    rw [show be 8 hi ++ be 8 lo = ([] ++ be 8 hi) ++ be 8 lo by simp]
    generalize [] ++ be 8 hi ++ be 8 lo = LL at *
    generalize hL : [] ++ be 8 hi = L1 at *
    clear hL hll
    go_enter Tryz.func106, Tryz.ntmps106
    go_wp2_with fail
    refine (V.out _).mono ?_
    rintro e w1 ⟨rfl, hb1⟩
    have h1 := H0.out.step hb1
    have a0 : w1.cell? ⟨w.heap.size, 0, none⟩ = some (.int .i64 6) := h1.cell 0
    have a1 : w1.cell? ⟨w.heap.size, 1, none⟩ = some (.int .u64 (hi : Int)) := h1.cell 1
    have a2 : w1.cell? ⟨w.heap.size, 2, none⟩ = some (.int .u64 (lo : Int)) := h1.cell 2
    have H1 := Lib.hid h1
    clear hb1 h1
    go_wp2_with fail
    go_region_held3 (fun w' => w'.cell? ⟨w.heap.size, 1, none⟩ = some (.int .u64 (hi : Int)) ∧ w'.cell? ⟨w.heap.size, 2, none⟩ = some (.int .u64 (lo : Int))) (first | go_keep | exact ⟨d1, d2⟩ | exact ⟨e1, e2⟩)
      (first
      | (go_at_call 33; refine (P2.out A1 c1 _ (by first | exact S1.out | exact S1.out.drewN _)).mono ?_; rintro e w3 ⟨v3, rfl, o3, hb3⟩; obtain ⟨A3, c3, rfl, s3⟩ := o3.bs
         have h3 : Box 108 w w3 _ := (by first | exact H2.out.step hb3 | exact (H2.out.drewN _).step hb3)
         have e1 : w3.cell? ⟨w.heap.size, 1, none⟩ = some (.int .u64 (hi : Int)) := h3.cell 1
         have e2 : w3.cell? ⟨w.heap.size, 2, none⟩ = some (.int .u64 (lo : Int)) := h3.cell 2
         have H3 := Lib.hid h3
         have O3 := Lib.hid o3
         have Z3 := Lib.hid (H2.out.lt)
         clear hb3 o3 s3 h3)
      | (go_at_call 33; refine (P1.out _).mono ?_; rintro e w2 ⟨v2, rfl, o2, hb2⟩; obtain ⟨A1, c1, rfl, s2⟩ := o2.bs
         have h2 : Box 108 w w2 _ := (by first | exact H1.out.step hb2 | exact (H1.out.drewN _).step hb2)
         have d1 : w2.cell? ⟨w.heap.size, 1, none⟩ = some (.int .u64 (hi : Int)) := h2.cell 1
         have d2 : w2.cell? ⟨w.heap.size, 2, none⟩ = some (.int .u64 (lo : Int)) := h2.cell 2
         have H2 := Lib.hid h2
         have S1 : Hid (Bs w2 A1 c1 L1) := Lib.hid s2
         clear hb2 o2 s2 h2))
    go_wp2_with fail
    go_ret
    exact ⟨_, rfl, O3.out.mono (by have := Z3.out; omega), H3.out.below⟩
  · rw [show paBytes 4 0 lo = be 4 lo from if_pos rfl]
    have P1 := Lib.hid (fun w => Bits.put_uint32 none 0 [] lo w (Bs.nil _ _ _) (by simp) hl4)
    have hl4' : (lo : Int) < 4294967296 := by omega
    go_enter Tryz.func106, Tryz.ntmps106
    go_wp2_with fail
    refine (V.out _).mono ?_
    rintro e w1 ⟨rfl, hb1⟩
    have h1 := H0.out.step hb1
    have a0 : w1.cell? ⟨w.heap.size, 0, none⟩ = some (.int .i64 4) := h1.cell 0
    have a2 : w1.cell? ⟨w.heap.size, 2, none⟩ = some (.int .u64 (lo : Int)) := h1.cell 2
    have H1 := Lib.hid h1
    clear hb1 h1
    go_wp2_with fail
    refine (P1.out _).mono ?_
    rintro e w2 ⟨v2, rfl, o2, hb2⟩
    have H2 := Lib.hid (below_step H1.out.below hb2)
    have O2 := Lib.hid (o2.mono (b' := w.heap.size) H1.out.below.size)
    clear hb2 o2
    go_wp2_with fail
    go_ret
    exact ⟨_, rfl, O2.out, H2.out⟩

theorem paBytes_len {fam : Int} {hi lo : Nat} : 4 ≤ (paBytes fam hi lo).length ∧ (paBytes fam hi lo).length ≤ 16 := by
  unfold paBytes
  split
  · simp [be_len]
  · simp [be_len]
/-- a prefix's bytes -/
def pfBytes (fam : Int) (hi lo : Nat) (bits : Int) : List UInt8 := if pvB fam hi lo bits = true then [UInt8.ofNat fam.toNat, UInt8.ofNat bits.toNat] ++ paBytes fam hi lo else []
theorem pvB_spec {fam : Int} {hi lo : Nat} {bits : Int} (h : pvB fam hi lo bits = true) : vaB fam hi lo = true ∧ 0 ≤ bits ∧ bits ≤ 128 ∧ (fam = 4 ∨ fam = 6) := by
  unfold pvB at h
  simp only [Bool.and_eq_true] at h
  have hf := vaB_fam h.1.1.1
  have h1 := of_decide_eq_true h.1.1.2
  have h2 := of_decide_eq_true h.1.2
  refine ⟨h.1.1.1, h1, ?_, hf⟩
  rcases hf with rfl | rfl
  · have : pw 4 = 32 := rfl
    omega
  · have : pw 6 = 128 := rfl
    omega
set_option maxRecDepth 100000 in
set_option maxHeartbeats 1000000 in
theorem put_any (fam : Int) (hi lo : Nat) (bits : Int) (w : World) (hh : hi < 18446744073709551616) (hl : lo < 18446744073709551616) :
    Calls Tryz.prog 63 #[.agg #[.int .i64 fam, .int .u64 (hi : Int), .int .u64 (lo : Int), .int .i64 bits]] w (Ret w (pfBytes fam hi lo bits)) := by
  have V := Lib.hid (fun w => valid_any fam hi lo bits w hh hl)
  have H0 := Lib.hid (Box.start 110 w #[.int .i64 fam, .int .u64 (hi : Int), .int .u64 (lo : Int), .int .i64 bits])
  unfold pfBytes
  cases hv : pvB fam hi lo bits
  · rw [hv] at V
    rw [if_neg (by simp)]
    clear hv
    go_enter Tryz.func63, Tryz.ntmps63
    go_wp2_with fail
    refine (V.out _).mono ?_
    rintro e w1 ⟨rfl, hb1⟩
    have H1 := Lib.hid (H0.out.step hb1)
    clear hb1
    go_wp2_with fail
    go_ret
    exact ⟨_, rfl, Own.nil _ _, H1.out.below⟩
  · rw [hv] at V
    rw [if_pos rfl]
    obtain ⟨hva, h0, h1, hf⟩ := pvB_spec hv
    obtain ⟨bt, rfl⟩ : ∃ n : Nat, bits = n := ⟨bits.toNat, by omega⟩
    have PA := Lib.hid (fun w => putAddr_any fam hi lo w hh hl hva)
    obtain ⟨pl1, pl2⟩ := paBytes_len (fam := fam) (hi := hi) (lo := lo)
    generalize paBytes fam hi lo = pb at *
    have hwf : IntKind.u8.wrap fam = fam := by rcases hf with rfl | rfl <;> rfl
    have hwb : IntKind.u8.wrap (bt : Int) = bt := by rw [IntKind.wrap_u8]; omega
    have e1 : ((UInt8.ofNat fam.toNat).toNat : Int) = fam := by rcases hf with rfl | rfl <;> rfl
    have e2 : ((UInt8.ofNat bt).toNat : Int) = bt := by simp; omega
    rw [show ((bt : Int)).toNat = bt by omega]
    have BL : Hid (∀ w1 : World, Blk (w1.alloc (.cells #[.int .u8 fam, .int .u8 (bt : Int)] 5)) w1.heap.size [UInt8.ofNat fam.toNat, UInt8.ofNat bt]) := by
      intro w1
      have hc : (#[.int .u8 fam, .int .u8 (bt : Int)] : Array Value) = (u8s [UInt8.ofNat fam.toNat, UInt8.ofNat bt]).toArray := by
        unfold u8s u8
        rw [List.map_cons, List.map_cons, List.map_nil, e1, e2]
      have h := blk_new w1 (.cells #[.int .u8 fam, .int .u8 (bt : Int)] 5)
      unfold Blk
      rw [← hc]
      exact h
    generalize UInt8.ofNat fam.toNat = y1 at *
    generalize UInt8.ofNat bt = y2 at *
    clear hv hva h0 h1 hf e1 e2
    generalize hLL : [y1, y2] ++ pb = LL
    have HLL := Lib.hid hLL
    clear hLL
    go_enter Tryz.func63, Tryz.ntmps63
    go_wp2_with fail
    refine (V.out _).mono ?_
    rintro e w1 ⟨rfl, hb1⟩
    have h1 := H0.out.step hb1
    have a0 : w1.cell? ⟨w.heap.size, 0, none⟩ = some (.int .i64 fam) := h1.cell 0
    have a1 : w1.cell? ⟨w.heap.size, 1, none⟩ = some (.int .u64 (hi : Int)) := h1.cell 1
    have a2 : w1.cell? ⟨w.heap.size, 2, none⟩ = some (.int .u64 (lo : Int)) := h1.cell 2
    have a3 : w1.cell? ⟨w.heap.size, 3, none⟩ = some (.int .i64 (bt : Int)) := h1.cell 3
    have H1 := Lib.hid h1
    have Z1 := Lib.hid h1.lt
    have OW : Hid (∀ n, Own ((w1.alloc (.cells #[.int .u8 fam, .int .u8 (bt : Int)] 5)).drewN n) w1.heap.size (.slice (some ⟨w1.heap.size, 0, none⟩) 2 2) [y1, y2]) :=
      fun n => ((BL.out w1).own (Nat.le_refl _) (by simp)).drewN n
    clear hb1 h1
    go_wp2_with fail
    go_region_held3 (fun w' => w'.cell? ⟨w.heap.size, 0, none⟩ = some (.int .i64 fam) ∧ w'.cell? ⟨w.heap.size, 1, none⟩ = some (.int .u64 (hi : Int)) ∧ w'.cell? ⟨w.heap.size, 2, none⟩ = some (.int .u64 (lo : Int)) ∧ w'.cell? ⟨w.heap.size, 3, none⟩ = some (.int .i64 (bt : Int))) (first | go_keep | exact ⟨d0, d1, d2, d3⟩ | exact ⟨e0, e1, e2, e3⟩)
      (first
      | ((refine step_push (by rfl) _ _ (by rfl) (.slice (some ⟨w1.heap.size, 0, none⟩) 2 2) [y1, y2] pb A2 c2 (by rfl) (by rfl) OA.out S2.out (by omega) ZA.out (by simp; omega) ?_
          intro A3 c3 w3 o3 k3
          rw [HLL.out] at o3 ⊢
          have h3 := H2.out.only k3 (fun i hi => by have := Z1.out; simp [Value.ownBlock] at hi; omega)
          have e0 : w3.cell? ⟨w.heap.size, 0, none⟩ = some (.int .i64 fam) := h3.cell 0
          have e1 : w3.cell? ⟨w.heap.size, 1, none⟩ = some (.int .u64 (hi : Int)) := h3.cell 1
          have e2 : w3.cell? ⟨w.heap.size, 2, none⟩ = some (.int .u64 (lo : Int)) := h3.cell 2
          have e3 : w3.cell? ⟨w.heap.size, 3, none⟩ = some (.int .i64 (bt : Int)) := h3.cell 3
          have O3 := Lib.hid (o3.mono (b' := w.heap.size) (by have := Z1.out; omega))
          have H3 := Lib.hid h3.below
          clear h3 o3 k3))
      | ((refine step_push (B := w2.heap.size) (by rfl) _ _ (by rfl) (.slice (some ⟨w2.heap.size, 0, none⟩) 2 2) [y1, y2] pb A2 c2 (by rfl) (by rfl) (by first | exact ((BL.out w2).own (base := w2.heap.size) (Nat.le_refl _) (by simp)) | exact (((BL.out w2).own (base := w2.heap.size) (Nat.le_refl _) (by simp)).drewN 1)) (by first | exact (S2.out.below (below_alloc (Below.refl _ _) _)) | exact ((S2.out.below (below_alloc (Below.refl _ _) _)).drewN 1)) (by omega) (by simp) (by simp; omega) ?_
          intro A3 c3 w3 o3 k3
          rw [HLL.out] at o3 ⊢
          have h3 : Box 110 w w3 #[.int .i64 fam, .int .u64 (hi : Int), .int .u64 (lo : Int), .int .i64 (bt : Int)] := (by first | exact (H2.out.alloc (.cells #[.int .u8 fam, .int .u8 (bt : Int)] 5)).only k3 (fun i hi => by have := H2.out.lt; simp [Value.ownBlock] at hi; omega) | exact ((H2.out.alloc (.cells #[.int .u8 fam, .int .u8 (bt : Int)] 5)).drewN 1).only k3 (fun i hi => by have := H2.out.lt; simp [Value.ownBlock] at hi; omega))
          have e0 : w3.cell? ⟨w.heap.size, 0, none⟩ = some (.int .i64 fam) := h3.cell 0
          have e1 : w3.cell? ⟨w.heap.size, 1, none⟩ = some (.int .u64 (hi : Int)) := h3.cell 1
          have e2 : w3.cell? ⟨w.heap.size, 2, none⟩ = some (.int .u64 (lo : Int)) := h3.cell 2
          have e3 : w3.cell? ⟨w.heap.size, 3, none⟩ = some (.int .i64 (bt : Int)) := h3.cell 3
          have O3 := Lib.hid (o3.mono (b' := w.heap.size) (by have := H2.out.lt; omega))
          have H3 := Lib.hid h3.below
          clear h3 o3 k3))
      | (go_at_call 106; refine (PA.out _).mono ?_; rintro e w2 ⟨v2, rfl, o2, hb2⟩; obtain ⟨A2, c2, rfl, s2⟩ := o2.bs
         have h2 : Box 110 w w2 _ := (by first | exact H1.out.step hb2 | exact (H1.out.drewN 1).step hb2 | exact (H1.out.alloc _).step hb2 | exact ((H1.out.alloc _).drewN 1).step hb2)
         have d0 : w2.cell? ⟨w.heap.size, 0, none⟩ = some (.int .i64 fam) := h2.cell 0
         have d1 : w2.cell? ⟨w.heap.size, 1, none⟩ = some (.int .u64 (hi : Int)) := h2.cell 1
         have d2 : w2.cell? ⟨w.heap.size, 2, none⟩ = some (.int .u64 (lo : Int)) := h2.cell 2
         have d3 : w2.cell? ⟨w.heap.size, 3, none⟩ = some (.int .i64 (bt : Int)) := h2.cell 3
         have H2 := Lib.hid h2
         have S2 := Lib.hid s2
         (try (have OA := Lib.hid ((OW.out 1).below hb2); have ZA : Hid (w1.heap.size ≤ w2.heap.size) := Lib.hid (Nat.le_trans (by simp) hb2.size)))
         clear o2 hb2 s2 h2))
    all_goals
      go_wp2_with fail
      go_ret
      exact ⟨_, rfl, O3.out, H3.out⟩
end Go.Proofs.YtafdhccdjbfepaaGreat.Pfx
/- The walk of the document's bit. -/
namespace Go.Proofs.YtafdhccdjbfepaaGreat.Pfx
open Go.RowKit Go.Proofs.YtafdhccdjbfepaaGreat.K Go.Proofs.YtafdhccdjbfepaaGreat.Help
set_option linter.unusedVariables false

/-- an address as one number -/
def xNum (fam : Int) (hi lo : Nat) : Nat := if fam = 4 then lo else hi * 18446744073709551616 + lo
def abit (fam : Int) (hi lo i : Nat) : Bool := decide (xNum fam hi lo / 2 ^ (pw fam - 1 - i) % 2 = 1)
theorem refBits4 (w : World) : Calls Tryz.prog 117 #[.int .i64 4] w fun e w' => e = .returned (.int .i64 32) ∧ w = w' := refBits_any 4 w
theorem refBits6 (w : World) : Calls Tryz.prog 117 #[.int .i64 6] w fun e w' => e = .returned (.int .i64 128) ∧ w = w' := refBits_any 6 w
theorem and1 (x j : Nat) (hx : x < 18446744073709551616) : (bits .and .u64 ((x : Int) / 2 ^ j) 1 == 1) = decide (x / 2 ^ j % 2 = 1) := by
  have hc : (x : Int) / 2 ^ j = ((x / 2 ^ j : Nat) : Int) := by push_cast; rfl
  have hb := band_eq (a := x / 2 ^ j) (b := 1) (by unfold B64; exact Nat.lt_of_le_of_lt (Nat.div_le_self _ _) hx) (by unfold B64; decide)
  have h1 : band (x / 2 ^ j) 1 = x / 2 ^ j % 2 := by unfold band; exact Nat.and_one_is_mod _
  rw [h1] at hb
  have hb2 : bits .and .u64 ((x / 2 ^ j : Nat) : Int) 1 = ((x / 2 ^ j % 2 : Nat) : Int) := hb
  rw [hc, hb2]
  by_cases h : x / 2 ^ j % 2 = 1
  · rw [h]; rfl
  · rw [decide_eq_false h, beq_eq_false_iff_ne]; omega
theorem abit4 (lo i : Nat) : abit 4 0 lo i = decide (lo / 2 ^ (31 - i) % 2 = 1) := rfl
theorem abit6a (hi lo i : Nat) (hl : lo < 18446744073709551616) (h : i < 64) : abit 6 hi lo i = decide (hi / 2 ^ (127 - i - 64) % 2 = 1) := by
  have e : xNum 6 hi lo / 2 ^ (pw 6 - 1 - i) = hi / 2 ^ (127 - i - 64) := by
    have e1 : xNum 6 hi lo = hi * 18446744073709551616 + lo := if_neg (by decide)
    have e2 : pw 6 - 1 - i = 64 + (127 - i - 64) := by have : pw 6 = 128 := rfl; omega
    have e3 : (2 : Nat) ^ 64 = 18446744073709551616 := by decide
    have e4 : (hi * 18446744073709551616 + lo) / 18446744073709551616 = hi := by omega
    rw [e1, e2, Nat.pow_add, ← Nat.div_div_eq_div_mul, e3, e4]
  unfold abit
  rw [e]
theorem abit6b (hi lo i : Nat) (h : 64 ≤ i) (h2 : i < 128) : abit 6 hi lo i = decide (lo / 2 ^ (127 - i) % 2 = 1) := by
  have e : xNum 6 hi lo / 2 ^ (pw 6 - 1 - i) % 2 = lo / 2 ^ (127 - i) % 2 := by
    have e1 : xNum 6 hi lo = hi * 18446744073709551616 + lo := if_neg (by decide)
    obtain ⟨k, hk⟩ : ∃ k, 127 - i = k := ⟨_, rfl⟩
    have e2 : pw 6 - 1 - i = k := by have : pw 6 = 128 := rfl; omega
    rw [e1, e2, hk]
    have hp : (18446744073709551616 : Nat) = 2 ^ (63 - k) * 2 * 2 ^ k := by
      rw [← Nat.pow_succ, ← Nat.pow_add, show 63 - k + 1 + k = 64 by omega]
    rw [hp, ← Nat.mul_assoc, Nat.add_comm, Nat.add_mul_div_right _ _ (Nat.pow_pos (by omega)), ← Nat.mul_assoc]
    omega
  unfold abit
  rw [e]
set_option maxRecDepth 100000 in
theorem bit4 (lo i : Nat) (w : World) (hl : lo < 18446744073709551616) (hi : i < 32) :
    Calls Tryz.prog 130 #[.agg #[.int .i64 4, .int .u64 0, .int .u64 (lo : Int)], .int .i64 (i : Int)] w (Pure w (.bool (abit 4 0 lo i))) := by
  have HE := Lib.hid ((and1 lo (31 - i) hl).trans (abit4 lo i).symm)
  go_enter Tryz.func130, Tryz.ntmps130
  go_wp2_with (go_at_call 117; refine (refBits4 _).mono ?_; rintro e w' ⟨rfl, rfl⟩)
  go_ret
  exact ⟨ret_bool HE.out, below_alloc (Below.refl _ _) _⟩
theorem bit6 (hi lo i : Nat) (w : World) (hh : hi < 18446744073709551616) (hl : lo < 18446744073709551616) (hi1 : i < 128) :
    Calls Tryz.prog 130 #[.agg #[.int .i64 6, .int .u64 (hi : Int), .int .u64 (lo : Int)], .int .i64 (i : Int)] w (Pure w (.bool (abit 6 hi lo i))) := by
  by_cases h : i < 64
  · have h2 : (i : Int) < 64 := by omega
    have HE := Lib.hid ((and1 hi (127 - i - 64) hh).trans (abit6a hi lo i hl h).symm)
    go_enter Tryz.func130, Tryz.ntmps130
    go_wp2_with (go_at_call 117; refine (refBits6 _).mono ?_; rintro e w' ⟨rfl, rfl⟩)
    go_ret
    exact ⟨ret_bool HE.out, below_alloc (Below.refl _ _) _⟩
  · have h2 : (64 : Int) ≤ i := by omega
    have HE := Lib.hid ((and1 lo (127 - i) hl).trans (abit6b hi lo i (by omega) hi1).symm)
    go_enter Tryz.func130, Tryz.ntmps130
    go_wp2_with (go_at_call 117; refine (refBits6 _).mono ?_; rintro e w' ⟨rfl, rfl⟩)
    go_ret
    exact ⟨ret_bool HE.out, below_alloc (Below.refl _ _) _⟩
/-- an address's bit, both families -/
theorem bit_any (fam : Int) (hi lo i : Nat) (w : World) (hh : hi < 18446744073709551616) (hl : lo < 18446744073709551616) (hv : vaB fam hi lo = true) (hi1 : i < pw fam) :
    Calls Tryz.prog 130 #[.agg #[.int .i64 fam, .int .u64 (hi : Int), .int .u64 (lo : Int)], .int .i64 (i : Int)] w (Pure w (.bool (abit fam hi lo i))) := by
  have hd := of_decide_eq_true hv
  rcases hd with rfl | ⟨rfl, rfl, _⟩
  · exact bit6 hi lo i w hh hl hi1
  · exact bit4 lo i w hl hi1
end Go.Proofs.YtafdhccdjbfepaaGreat.Pfx
