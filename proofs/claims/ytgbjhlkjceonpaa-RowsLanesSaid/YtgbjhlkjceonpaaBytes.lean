/- Lists of bytes in memory: small words for all proofs of this seat. -/
import Derived.Test.YtgbjhlkjceonpaaBase
namespace Go.Proofs.Ytgbjhlkjceonpaa.K
open Go.RowKit

def u8 (b : UInt8) : Value := .int .u8 (b.toNat : Int)
def u8s (l : List UInt8) : List Value := l.map u8
theorem u8s_len (l : List UInt8) : (u8s l).length = l.length := by simp [u8s]
theorem u8s_app (l m : List UInt8) : u8s (l ++ m) = u8s l ++ u8s m := by simp [u8s]
theorem u8s_snoc (l : List UInt8) (b : UInt8) : u8s (l ++ [b]) = u8s l ++ [.int .u8 (b.toNat : Int)] := by simp [u8s, u8]
theorem u8s_at (l : List UInt8) (i : Nat) : (u8s l)[i]? = l[i]?.map u8 := by unfold u8s; rw [List.getElem?_map]
theorem u8s_arr (l : List UInt8) (i : Nat) : (u8s l).toArray[i]? = l[i]?.map u8 := by rw [List.getElem?_toArray, u8s_at]
theorem u8s_get (l : List UInt8) (j : Nat) (h : j < l.length) : (u8s l).getD j default = .int .u8 ((l.getD j 0).toNat : Int) := by simp [u8s, u8, h]

/-- a slice of bytes that reads as l; its length is l's -/
structure Bs (w : World) (A : Option Addr) (c : Nat) (l : List UInt8) : Prop where
  le : l.length ≤ c
  max : l.length ≤ 140737488355328
  at_ : ∀ i, i < l.length → ∃ ad, A = some ad ∧ ad.block < w.heap.size ∧ w.cell? (ad.add i) = some (.int .u8 ((l.getD i 0).toNat : Int))
theorem addr_add_block (a : Addr) (n : Nat) : (a.add n).block = a.block := by unfold Addr.add; split <;> rfl
theorem addr_add_plain (g j : Nat) : (⟨g, 0, none⟩ : Addr).add j = ⟨g, j, none⟩ := by unfold Addr.add; split <;> simp_all
section
variable {w w' : World} {A : Option Addr} {c : Nat} {l : List UInt8}
theorem Bs.below (h : Bs w A c l) (hb : Below w.heap.size w w') : Bs w' A c l :=
  ⟨h.le, h.max, fun i hi => by
    obtain ⟨ad, e, hlt, hc⟩ := h.at_ i hi
    exact ⟨ad, e, Nat.lt_of_lt_of_le hlt hb.size, (hb.cell (p := ad.add i) (by rw [addr_add_block]; exact hlt)).trans hc⟩⟩
theorem Bs.drewN (h : Bs w A c l) (n : Nat) : Bs (w.drewN n) A c l := ⟨h.le, h.max, h.at_⟩
theorem Bs.nil (w : World) (A : Option Addr) (c : Nat) : Bs w A c [] := ⟨by simp, by simp, fun i hi => by simp at hi⟩
theorem Bs.cells (h : Bs w A c l) {ad : Addr} (ha : A = some ad) : ∀ j v, (u8s l)[j]? = some v → w.cell? (ad.add j) = some v := by
  intro j v hv
  have hj : j < l.length := by
    rcases Nat.lt_or_ge j l.length with h1 | h1
    · exact h1
    · rw [List.getElem?_eq_none (by rw [u8s_len]; exact h1)] at hv; cases hv
  obtain ⟨ad', e, _, hc⟩ := h.at_ j hj
  rw [ha] at e; injection e with e; subst e
  rw [hc]
  simp [u8s, u8, hj] at hv
  rw [← hv]; simp [hj]
end
theorem below_drewN {B : Nat} {w W : World} (h : Below B w W) (n : Nat) : Below B w (W.drewN n) := ⟨h.os, h.tape, h.output, h.size, h.block⟩
theorem below_then {B : Nat} {w w1 w2 : World} (h : Below B w w1) (hB : B ≤ w1.heap.size) (k : Below w1.heap.size w1 w2) : Below B w w2 :=
  h.trans ⟨k.os, k.tape, k.output, k.size, fun i hi => k.block i (Nat.lt_of_lt_of_le hi hB)⟩
/-- steps of a call: old memory stays -/
theorem below_step {w w1 w2 : World} (h : Below w.heap.size w w1) (k : Below w1.heap.size w1 w2) : Below w.heap.size w w2 := below_then h h.size k
theorem below_alloc {w w1 : World} (h : Below w.heap.size w w1) (o : Obj) : Below w.heap.size w (w1.alloc o) := h.alloc h.size o
theorem below_only {w w1 w2 : World} {T : Nat → Prop} (h : Below w.heap.size w w1) (k : Only w1 w2 T) (hT : ∀ i, T i → w.heap.size ≤ i) : Below w.heap.size w w2 := Below.then_only h k (Nat.le_refl _) hT

/-! a block of bytes known whole -/
def Blk (w : World) (g : Nat) (l : List UInt8) : Prop := w.heap[g]? = some (.cells (u8s l).toArray 5 (0, 0))
section
variable {w w' : World} {g : Nat} {l : List UInt8}
theorem Blk.lt (h : Blk w g l) : g < w.heap.size := blk_lt h
theorem Blk.cell (h : Blk w g l) (j : Nat) (hj : j < l.length) : w.cell? ⟨g, j, none⟩ = some (.int .u8 ((l.getD j 0).toNat : Int)) := by
  rw [blk_cell h]; simp [u8s, u8, hj]
theorem Blk.free (h : Blk w g l) (j : Nat) : w.frozen? ⟨g, j, none⟩ = false := blk_free h j
theorem Blk.set (h : Blk w g l) (j : Nat) (x : UInt8) : Blk (w.setCell ⟨g, j, none⟩ (.int .u8 (x.toNat : Int))) g (l.set j x) := by
  have h2 := blk_set h j (.int .u8 (x.toNat : Int))
  unfold Blk
  rw [h2]
  simp [u8s, u8, List.map_set]
theorem Blk.only {T : Nat → Prop} (h : Blk w g l) (k : Only w w' T) (hn : ¬ T g) : Blk w' g l := k.blk h hn
theorem Blk.drewN (h : Blk w g l) (n : Nat) : Blk (w.drewN n) g l := h
theorem Blk.bs (h : Blk w g l) (hl : l.length ≤ 140737488355328) : Bs w (some ⟨g, 0, none⟩) l.length l :=
  ⟨Nat.le_refl _, hl, fun i hi => ⟨_, rfl, h.lt, by rw [addr_add_plain]; exact h.cell i hi⟩⟩
end
/-! the same of an array of bytes: its block bears the array's type -/
def BlkT (w : World) (t : TypeId) (g : Nat) (l : List UInt8) : Prop := w.heap[g]? = some (.cells (u8s l).toArray t (0, 0))
section
variable {w w' : World} {t : TypeId} {g : Nat} {l : List UInt8}
theorem BlkT.cell (h : BlkT w t g l) (j : Nat) (hj : j < l.length) : w.cell? ⟨g, j, none⟩ = some (.int .u8 ((l.getD j 0).toNat : Int)) := by
  rw [blk_cell h]; simp [u8s, u8, hj]
theorem BlkT.free (h : BlkT w t g l) (j : Nat) : w.frozen? ⟨g, j, none⟩ = false := blk_free h j
theorem BlkT.set (h : BlkT w t g l) (j : Nat) (x : UInt8) : BlkT (w.setCell ⟨g, j, none⟩ (.int .u8 (x.toNat : Int))) t g (l.set j x) := by
  have h2 := blk_set h j (.int .u8 (x.toNat : Int))
  unfold BlkT
  rw [h2]
  simp [u8s, u8, List.map_set]
theorem BlkT.bs (h : BlkT w t g l) (hl : l.length ≤ 140737488355328) : Bs w (some ⟨g, 0, none⟩) l.length l :=
  ⟨Nat.le_refl _, hl, fun i hi => ⟨_, rfl, blk_lt h, by rw [addr_add_plain]; exact h.cell i hi⟩⟩
end
/-- an own slice of bytes, its block from base on -/
def Own (w : World) (base : Nat) (v : Value) (l : List UInt8) : Prop := w.ownsRow base 5 1 v l.length (u8s l) ∧ l.length ≤ 140737488355328
theorem own_mono {w : World} {b b' e n : Nat} {v : Value} {xs : List Value} (h : w.ownsRow b e 1 v n xs) (hb : b' ≤ b) : w.ownsRow b' e 1 v n xs := by
  refine ⟨h.1, ?_⟩
  rcases h.2 with h2 | ⟨g, cap, cur, hv, hg, r⟩
  · exact .inl h2
  · exact .inr ⟨g, cap, cur, hv, Nat.le_trans hb hg, r⟩
section
variable {w w' : World} {base g : Nat} {v : Value} {l : List UInt8}
theorem Own.nil (w : World) (base : Nat) : Own w base (.slice none 0 0) [] := ⟨⟨by simp [u8s], .inl ⟨rfl, rfl⟩⟩, by simp⟩
theorem Blk.own (h : Blk w g l) (hb : base ≤ g) (hl : l.length ≤ 140737488355328) : Own w base (.slice (some ⟨g, 0, none⟩) l.length l.length) l :=
  ⟨⟨by rw [u8s_len]; omega, .inr ⟨g, l.length, _, rfl, hb, h, Nat.le_refl _, by simp only [maxLen]; omega, by simp [u8s_len], by simp [List.take_of_length_le, u8s_len]⟩⟩, hl⟩
theorem Own.bs (h : Own w base v l) : ∃ A c, v = .slice A l.length c ∧ Bs w A c l := by
  rcases h.1.2 with ⟨rfl, h0⟩ | ⟨g, cap, cur, rfl, hb, hh, hn, hm, hs, ht⟩
  · have : l = [] := List.eq_nil_of_length_eq_zero h0
    subst this
    exact ⟨none, 0, rfl, Bs.nil _ _ _⟩
  · refine ⟨_, cap, rfl, hn, h.2, fun i hi => ⟨_, rfl, blk_lt hh, ?_⟩⟩
    have hc := h.1.cells (g := g) rfl i (.int .u8 ((l.getD i 0).toNat : Int)) (by simp [u8s, u8, hi])
    exact hc
theorem Own.below (h : Own w base v l) (hb : Below w.heap.size w w') : Own w' base v l := by
  refine ⟨⟨h.1.1, ?_⟩, h.2⟩
  rcases h.1.2 with h2 | ⟨g, cap, cur, hv, hg, hh, r⟩
  · exact .inl h2
  · exact .inr ⟨g, cap, cur, hv, hg, (hb.block g (blk_lt hh)).trans hh, r⟩
theorem Own.only {T : Nat → Prop} (h : Own w base v l) (k : Only w w' T) (hn : ∀ i, v.ownBlock = some i → ¬ T i) : Own w' base v l := by
  refine ⟨⟨h.1.1, ?_⟩, h.2⟩
  rcases h.1.2 with h2 | ⟨g, cap, cur, hv, hg, hh, r⟩
  · exact .inl h2
  · exact .inr ⟨g, cap, cur, hv, hg, k.blk hh (hn g (by rw [hv]; rfl)), r⟩
theorem Own.drewN (h : Own w base v l) (n : Nat) : Own (w.drewN n) base v l := h
theorem Own.mono {b' : Nat} (h : Own w base v l) (hb : b' ≤ base) : Own w b' v l := ⟨own_mono h.1 hb, h.2⟩
theorem Own.base_le (h : Own w base v l) {i : Nat} (hi : v.ownBlock = some i) : base ≤ i := by
  rcases h.1.2 with ⟨rfl, _⟩ | ⟨g, cap, cur, rfl, hb, _⟩
  · simp [Value.ownBlock] at hi
  · have : g = i := by simpa [Value.ownBlock] using hi
    omega
end
theorem info_u8 : (Try.prog.info? 5).map (fun i => (i.zero, i.size, i.bytes)) = some (some (.int .u8 0), 1, 1) := by kernel_rfl
theorem size_u8 : (Try.prog.info? 5).map (·.size) = some 1 := by kernel_rfl
theorem madeCells_u8 (m : Nat) : madeCells #[Value.int .u8 0] m = (u8s (List.replicate m 0)).toArray := by
  apply Array.ext_getElem?
  intro i
  by_cases hi : i < m
  · simp [madeCells, hi, Nat.mod_one, u8s, u8]
  · rw [Array.getElem?_eq_none (by rw [size_madeCells]; omega), Array.getElem?_eq_none (by simp [u8s_len]; omega)]
/-- so many zeros, behind a name that the walk does not open -/
def zs (m : Nat) : List UInt8 := List.replicate m 0
/-- make([]byte, m) -/
theorem make_u8 (m : Nat) (hm : m ≤ 140737488355328) (W : World) : (Instr.makeSlice 22 (.int .i64 (m : Int)) (.int .i64 (m : Int))).run Try.prog W = .ok (.slice (some ⟨W.heap.size, 0, none⟩) m m) (W.alloc (.cells (u8s (zs m)).toArray 5)) := by
  have h := run_make_row' (P := Try.prog) 22 5 (.int .u8 0) 1 Try.underlying22 info_u8 rfl .i64 .i64 m (by omega) (by omega) W
  rw [madeCells_u8] at h
  exact h
theorem blk_made (W : World) (m : Nat) : Blk (W.alloc (.cells (u8s (zs m)).toArray 5)) W.heap.size (List.replicate m 0) := blk_new _ _
theorem splice_get {L l : List UInt8} {o m i : Nat} (hl : l.length = m) (hn : o + m ≤ L.length) : (L.take o ++ l ++ L.drop (o + m))[i]? = if i < o then L[i]? else if i < o + m then l[i - o]? else L[i]? := by
  have h1 : (L.take o).length = o := by rw [List.length_take]; omega
  by_cases hi : i < o
  · rw [if_pos hi, List.append_assoc, List.getElem?_append_left (by omega), List.getElem?_take, if_pos hi]
  · rw [if_neg hi]
    by_cases hi2 : i < o + m
    · rw [if_pos hi2, List.append_assoc, List.getElem?_append_right (by omega), List.getElem?_append_left (by omega), h1]
    · rw [if_neg hi2, List.getElem?_append_right (by rw [List.length_append]; omega), List.getElem?_drop]
      congr 1
      rw [List.length_append]; omega
/-- copy onto a block known whole, from place o on -/
theorem copy_u8 {w : World} {g o n dc c : Nat} {L l : List UInt8} {A : Option Addr} (hb : Blk w g L) (hs : Bs w A c l) (hn : o + n ≤ L.length) (ty : TypeId) :
    ∃ w', (Builtin.copy_ #[22, 22] ty #[.slice (some ⟨g, o, none⟩) n dc, .slice A l.length c]).run Try.prog w = .ok (goInt (Nat.min l.length n)) w' ∧
      Blk w' g (L.take o ++ l.take (Nat.min l.length n) ++ L.drop (o + Nat.min l.length n)) ∧ Only w w' (fun k => k = g) := by
  have hmin : Nat.min l.length n ≤ l.length ∧ Nat.min l.length n ≤ n := ⟨Nat.min_le_left _ _, Nat.min_le_right _ _⟩
  generalize hm : Nat.min l.length n = m at *
  by_cases h0 : m = 0
  · subst h0
    refine ⟨w, ?_, by simpa using hb, Only.refl _ _⟩
    exact run_copy_none (P := Try.prog) w _ _ ty 5 _ _ _ _ _ _ Try.underlying22 size_u8 hm
  · obtain ⟨ad, rfl⟩ : ∃ ad, A = some ad := by
      obtain ⟨ad, e, _⟩ := hs.at_ 0 (by omega)
      exact ⟨ad, e⟩
    have hlen : (u8s (l.take m)).length = m := by rw [u8s_len, List.length_take]; omega
    have hrun := run_copy_cells (P := Try.prog) w 22 22 ty 5 g o n dc ad l.length c (u8s (l.take m)) Try.underlying22 size_u8 (by rw [hlen, hm])
      (fun j v hv => by
        have hj : j < m := by
          rcases Nat.lt_or_ge j m with h1 | h1
          · exact h1
          · rw [List.getElem?_eq_none (by omega)] at hv; cases hv
        refine hs.cells rfl j v ?_
        rw [← hv]
        simp [u8s, hj])
      (fun j hj => by rw [hb.cell (o + j) (by omega)]; rfl) (fun j hj => hb.free _)
      (fun v hv => by simp only [u8s, u8, List.mem_map] at hv; obtain ⟨q, _, rfl⟩ := hv; rfl)
    obtain ⟨⟨c2, h1, h2, h3⟩, h4⟩ := setCells_blk (u8s (l.take m)) o w _ hb (by simp [u8s_len]; omega)
    have hn2 : o + m ≤ L.length := by omega
    have hc2 : c2 = (u8s (L.take o ++ l.take m ++ L.drop (o + m))).toArray := by
      apply Array.ext_getElem?
      intro i
      rw [h3, hlen]
      have e0 : (u8s (L.take o ++ l.take m ++ L.drop (o + m))).toArray[i]? = (L.take o ++ l.take m ++ L.drop (o + m))[i]?.map u8 := u8s_arr _ _
      have e1 : (u8s L).toArray[i]? = L[i]?.map u8 := u8s_arr _ _
      have e2 : (u8s (l.take m))[i - o]? = (l.take m)[i - o]?.map u8 := u8s_at _ _
      rw [e0, e1, e2, splice_get (by rw [List.length_take]; omega) hn2]
      by_cases hi : i < o
      · rw [if_neg (by omega), if_pos hi]
      · by_cases hi2 : i < o + m
        · rw [if_pos (by omega), if_neg hi, if_pos hi2]
        · rw [if_neg (by omega), if_neg hi, if_neg hi2]
    refine ⟨_, by rw [hrun, hlen], ?_, h4⟩
    unfold Blk
    rw [h1, hc2]
/-- what a function answers that makes a list of bytes -/
def Ret (w : World) (l : List UInt8) (e : Ending) (w' : World) : Prop := ∃ v, e = .returned v ∧ Own w' w.heap.size v l ∧ Below w.heap.size w w'
theorem kind_u8 (x i : Nat) : IntKind.u8.wrap (((x / 2 ^ (8 * i) : Nat)) : Int) = ((UInt8.ofNat (x / 2 ^ (8 * i))).toNat : Int) := by
  rw [IntKind.wrap_u8]
  simp only [UInt8.toNat_ofNat']
  omega
theorem kind8 (x i : Nat) : IntKind.u8.wrap ((x : Int) / 2 ^ (8 * i)) = ((UInt8.ofNat (x / 2 ^ (8 * i))).toNat : Int) := by
  rw [← kind_u8]; push_cast; rfl
/-- numbers as bytes, highest first -/
def be : Nat → Nat → List UInt8
  | 0, _ => []
  | n + 1, x => UInt8.ofNat (x / 2 ^ (8 * n)) :: be n x
theorem be_len (n x : Nat) : (be n x).length = n := by induction n with
  | zero => rfl
  | succ n ih => simp [be, ih]
theorem be_step (L : List UInt8) (n i x : Nat) (hi : i < n) : (L ++ List.replicate (n - i) 0 ++ be i x).set (L.length + n - 1 - i) (UInt8.ofNat (x / 2 ^ (8 * i))) = L ++ List.replicate (n - (i + 1)) 0 ++ be (i + 1) x := by
  obtain ⟨m, rfl⟩ : ∃ m, n = i + 1 + m := ⟨n - i - 1, by omega⟩
  rw [show i + 1 + m - i = m + 1 by omega, show i + 1 + m - (i + 1) = m by omega, show L.length + (i + 1 + m) - 1 - i = L.length + m by omega]
  rw [List.replicate_succ', ← List.append_assoc, List.append_assoc (L ++ List.replicate m 0), List.set_append_right _ _ (by simp)]
  simp [be]
theorem be_step2 (R : List UInt8) (n i x : Nat) (hi : i < n) : (List.replicate (n - i) 0 ++ be i x ++ R).set (n - 1 - i) (UInt8.ofNat (x / 2 ^ (8 * i))) = List.replicate (n - (i + 1)) 0 ++ be (i + 1) x ++ R := by
  have h := be_step [] n i x hi
  simp only [List.nil_append, List.length_nil, Nat.zero_add] at h
  rw [List.set_append_left _ _ (by simp [be_len]; omega), h]
end Go.Proofs.Ytgbjhlkjceonpaa.K
