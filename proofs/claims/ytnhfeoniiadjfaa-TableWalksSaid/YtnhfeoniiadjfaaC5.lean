/- Contracts of the functions that the laws of this seat reach: part 5 of 8. -/
import Derived.Test.YtnhfeoniiadjfaaC4
import Derived.OrdersHeld
import Derived.Deep.RegionHeld3
import Derived.IntWalk
/- What lend lends: each key and value in a block of its own, marks behind it. -/
namespace Go.Proofs.Ytnhfeoniiadjfaa.Lst
open Go.RowKit Go.Proofs.Ytnhfeoniiadjfaa.K Go.Proofs.Ytnhfeoniiadjfaa.Help Go.Proofs.Ytnhfeoniiadjfaa.Pfx Go.Proofs.Ytnhfeoniiadjfaa.Peer
set_option linter.unusedVariables false

/-- one set that was lent: its blocks, their rooms -/
structure Itm where
  s : SetD
  gk : Nat
  ck : Nat
  gv : Nat
  cv : Nat
def Itm.rk (t : Itm) : Value := .slice (some ⟨t.gk, 0, none⟩) (t.s.1.length + 2) t.ck
def Itm.rv (t : Itm) : Value := .slice (some ⟨t.gv, 0, none⟩) (t.s.2.1.length + 2) t.cv
def Itm.rs (t : Itm) : List Value := [.slice (some ⟨t.gk, 0, none⟩) t.s.1.length (t.s.1.length + 2), .slice (some ⟨t.gv, 0, none⟩) t.s.2.1.length (t.s.2.1.length + 2), .bool t.s.2.2]
def Itm.ok (w : World) (B : Nat) (t : Itm) : Prop :=
  B ≤ t.gk ∧ t.gk < t.gv ∧ Byt w t.gk (t.s.1 ++ [161, 162]) ∧ Byt w t.gv (t.s.2.1 ++ [163, 164]) ∧ t.s.1.length + 2 ≤ t.ck ∧ t.s.2.1.length + 2 ≤ t.cv ∧ t.ck ≤ 9223372036854775807 ∧ t.cv ≤ 9223372036854775807 ∧ t.s.1.length ≤ 2000 ∧ t.s.2.1.length ≤ 2000
/-- all the items' blocks, apart -/
structure Lnt (w : World) (B : Nat) (l : List Itm) : Prop where
  ok : ∀ t, t ∈ l → t.ok w B
  ord : l.Pairwise (fun a b => a.gv < b.gk)
def lastS : List Value := [.slice none 0 0, .slice none 0 0, .bool true]
section
variable {w w' : World} {B : Nat} {l : List Itm}
theorem Itm.ok.keep {t : Itm} (h : t.ok w B) (hb : Below w.heap.size w w') : t.ok w' B := ⟨h.1, h.2.1, h.2.2.1.keep hb, h.2.2.2.1.keep hb, h.2.2.2.2⟩
theorem Lnt.nil (w : World) (B : Nat) : Lnt w B [] := ⟨by simp, List.Pairwise.nil⟩
theorem Lnt.keep (h : Lnt w B l) (hb : Below w.heap.size w w') : Lnt w' B l := ⟨fun t ht => (h.ok t ht).keep hb, h.ord⟩
instance stb_lnt : Stb w w' (Lnt w B l) (Lnt w' B l) := ⟨fun h hb => h.keep hb⟩
theorem Lnt.far {T : Nat → Prop} (h : Lnt w B l) (k : Only w w' T) (hT : ∀ i, T i → i < w.heap.size → NotU8 w i) : Lnt w' B l :=
  ⟨fun t ht => by
    obtain ⟨h1, h2, h3, h4, h5⟩ := h.ok t ht
    exact ⟨h1, h2, h3.far k hT, h4.far k hT, h5⟩, h.ord⟩
theorem Lnt.push (h : Lnt w B l) {t : Itm} (ht : t.ok w' B) (hb : Below w.heap.size w w') (hg : w.heap.size ≤ t.gk) : Lnt w' B (l ++ [t]) := by
  refine ⟨fun x hx => ?_, ?_⟩
  · rcases List.mem_append.1 hx with h1 | h1
    · exact (h.ok x h1).keep hb
    · simp only [List.mem_cons, List.not_mem_nil, or_false] at h1; subst h1; exact ht
  · rw [List.pairwise_append]
    refine ⟨h.ord, by simp, fun a ha b hb => ?_⟩
    simp only [List.mem_cons, List.not_mem_nil, or_false] at hb
    subst hb
    have := (h.ok a ha).2.2.2.1.lt
    omega
theorem rs_len (t : Itm) : t.rs.length = 3 := rfl
theorem rs_flat (l : List Itm) : (l.flatMap Itm.rs).length = l.length * 3 := by
  induction l with
  | nil => rfl
  | cons x r ih => rw [List.flatMap_cons, List.length_append, ih]; simp [rs_len]; omega
/-- item i's blocks -/
theorem Lnt.at_ (h : Lnt w B l) (i : Nat) (t : Itm) (ht : l[i]? = some t) : t.ok w B := h.ok t (List.mem_of_getElem? ht)
/-- the sets as they are read -/
theorem Itm.set {t : Itm} (h : t.ok w B) : SetE.R w (fun _ => False) t.rs t.s := by
  obtain ⟨h1, h2, h3, h4, h5, h6, h7, h8, h9, h10⟩ := h
  have b1 := h3.bs t.s.1.length (t.s.1.length + 2) (by simp) (by omega) (by omega)
  have b2 := h4.bs t.s.2.1.length (t.s.2.1.length + 2) (by simp) (by omega) (by omega)
  rw [List.take_left' rfl] at b1 b2
  exact ⟨_, _, _, _, rfl, Bs.bsn b1, Bs.bsn b2⟩
theorem Lnt.lst (h : Lnt w B l) {S : Value} (z : List Value) (n : Nat) (hn : l.length ≤ n) (hs : w.ownsRow B 37 3 S n (l.flatMap Itm.rs ++ z)) (hm : n ≤ 100000) : ∃ A c, S = .slice A n c ∧ n ≤ c ∧ c ≤ 9223372036854775807 ∧ ∀ c', l.length ≤ c' → c' ≤ 9223372036854775807 → Lst SetE w (fun _ => False) A c' (l.map Itm.s) := by
  have hcell := fun (g : Nat) (hg : S.ownBlock = some g) => hs.cells hg
  rcases hs.2 with ⟨rfl, h0⟩ | ⟨g, cap, cur, rfl, hb, hh, hnc, hmx, hsz, ht⟩
  · have : l = [] := List.eq_nil_of_length_eq_zero (by omega)
    subst this
    exact ⟨none, 0, by rw [h0], by omega, by omega, fun c' hc hc2 => ⟨by simp, hc2, fun i x h => by simp at h⟩⟩
  · refine ⟨_, cap, rfl, hnc, by simpa [maxLen] using hmx, fun c' hc hc2 => ⟨by simpa using hc, hc2, fun i x hx => ?_⟩⟩
    rw [List.getElem?_map] at hx
    obtain ⟨t, ht2, rfl⟩ := Option.map_eq_some_iff.1 hx
    have hi := (List.getElem?_eq_some_iff.1 ht2).1
    refine ⟨g, 0, t.rs, rfl, blk_lt hh, fun h => h, fun j hj => ?_, Itm.set (h.at_ i t ht2)⟩
    have hj3 : j < 3 := hj
    have hf : (l.flatMap Itm.rs ++ z)[i * 3 + j]? = t.rs[j]? := by
      rw [List.getElem?_append_left (by rw [rs_flat]; omega)]
      have := flat_at (sz := 3) (raws := l.map Itm.rs) (fun r hr => by obtain ⟨t, _, rfl⟩ := List.mem_map.1 hr; rfl) i j t.rs (by rw [List.getElem?_map, ht2]; rfl) hj3
      rwa [← List.flatMap_def] at this
    have hcc := hcell g rfl (i * 3 + j) (t.rs[j]'(by rw [rs_len]; omega)) (by rw [hf]; exact List.getElem?_eq_getElem _)
    rw [addr_add_plain] at hcc
    show w.cell? ⟨g, 0 + i * 3 + j, none⟩ = _
    rw [Nat.zero_add, hcc, List.getElem?_eq_getElem (by rw [rs_len]; omega)]
/-- the value of item i is turned -/
def Itm.turn (t : Itm) (v : List UInt8) : Itm := { t with s := (t.s.1, v, t.s.2.2) }
theorem Lnt.turn (h : Lnt w B l) (i : Nat) (t : Itm) (ht : l[i]? = some t) (v : List UInt8) (hv : v.length = t.s.2.1.length) (k : Only w w' (fun j => j = t.gv)) (hB : Byt w' t.gv (v ++ [163, 164])) : Lnt w' B (l.set i (t.turn v)) := by
  have hi := (List.getElem?_eq_some_iff.1 ht).1
  have hlt : ∀ a, a < l.length → ∀ b, b < l.length → a < b → (l.getD a ⟨([], [], false), 0, 0, 0, 0⟩).gv < (l.getD b ⟨([], [], false), 0, 0, 0, 0⟩).gk := fun a ha b hb hab => by
    have := List.pairwise_iff_getElem.1 h.ord a b ha hb hab
    simpa [ha, hb] using this
  have et : l[i] = t := by rw [List.getElem?_eq_getElem hi] at ht; injection ht
  refine ⟨fun x hx => ?_, ?_⟩
  · obtain ⟨j, hj, rfl⟩ := List.mem_iff_getElem.1 hx
    rw [List.length_set] at hj
    rw [List.getElem_set]
    have ht0 := h.at_ i t ht
    obtain ⟨a1, a2, a3, a4, a5, a6, a7, a8, a9, a10⟩ := ht0
    split
    · refine ⟨a1, a2, ?_, hB, a5, ?_, a7, a8, a9, ?_⟩
      · exact a3.only k (by omega)
      · show v.length + 2 ≤ t.cv
        rw [hv]; exact a6
      · show v.length ≤ 2000
        rw [hv]; exact a10
    · rename_i hne
      have hj0 := h.at_ j l[j] (List.getElem?_eq_getElem hj)
      obtain ⟨b1, b2, b3, b4, b5⟩ := hj0
      have hd : l[j].gk ≠ t.gv ∧ l[j].gv ≠ t.gv := by
        rcases Nat.lt_or_ge i j with hij | hij
        · have := List.pairwise_iff_getElem.1 h.ord i j hi hj hij
          rw [et] at this
          omega
        · have := List.pairwise_iff_getElem.1 h.ord j i hj hi (by omega)
          rw [et] at this
          omega
      exact ⟨b1, b2, b3.only k hd.1, b4.only k hd.2, b5⟩
  · rw [List.pairwise_iff_getElem]
    intro a b ha hb hab
    rw [List.length_set] at ha hb
    have := List.pairwise_iff_getElem.1 h.ord a b ha hb hab
    rw [List.getElem_set, List.getElem_set]
    have e1 : ∀ (q : Itm), (if i = a then t.turn v else q).gv = (if i = a then t else q).gv := fun q => by split <;> rfl
    have e2 : ∀ (q : Itm), (if i = b then t.turn v else q).gk = (if i = b then t else q).gk := fun q => by split <;> rfl
    rw [e1, e2]
    have f1 : (if i = a then t else l[a]) = l[a] := by
      split
      · rename_i e; subst e; exact et.symm
      · rfl
    have f2 : (if i = b then t else l[b]) = l[b] := by
      split
      · rename_i e; subst e; exact et.symm
      · rfl
    rw [f1, f2]; exact this
theorem turn_rs (l : List Itm) (i : Nat) (t : Itm) (ht : l[i]? = some t) (v : List UInt8) (hv : v.length = t.s.2.1.length) : (l.set i (t.turn v)).flatMap Itm.rs = l.flatMap Itm.rs ∧ (l.set i (t.turn v)).map Itm.rk = l.map Itm.rk ∧ (l.set i (t.turn v)).map Itm.rv = l.map Itm.rv := by
  have hi := (List.getElem?_eq_some_iff.1 ht).1
  have et : l[i] = t := by rw [List.getElem?_eq_getElem hi] at ht; injection ht
  have e1 : (t.turn v).rs = t.rs := by unfold Itm.rs Itm.turn; simp only; rw [hv]
  have e2 : (t.turn v).rk = t.rk := rfl
  have e3 : (t.turn v).rv = t.rv := by unfold Itm.rv Itm.turn; simp only; rw [hv]
  have hm : ∀ {β : Type} (f : Itm → β), f (t.turn v) = f t → (l.set i (t.turn v)).map f = l.map f := fun f hf => by
    rw [List.map_set, hf]
    apply List.ext_getElem (by simp)
    intro n h1 h2
    rw [List.getElem_set]
    split
    · rename_i e; subst e; rw [List.getElem_map, et]
    · rfl
  exact ⟨by rw [List.flatMap_def, List.flatMap_def, hm Itm.rs e1], hm _ e2, hm _ e3⟩
end
/-- what lend answers: the box at g, its three rows, their items -/
structure Lent (w : World) (B g : Nat) (S K V : Value) (l : List Itm) : Prop where
  box : w.heap[g]? = some (.cells #[S, K, V] 41 (0, 0))
  hg : B ≤ g
  s : w.ownsRow B 37 3 S (l.length + 1) (l.flatMap Itm.rs ++ lastS)
  k : w.ownsRow B 27 1 K l.length (l.map Itm.rk)
  v : w.ownsRow B 27 1 V l.length (l.map Itm.rv)
  it : Lnt w B l
  ne : ∀ i, K.ownBlock = some i → V.ownBlock = some i → False
theorem Lent.keep {w w' : World} {B g : Nat} {S K V : Value} {l : List Itm} (h : Lent w B g S K V l) (hb : Below w.heap.size w w') : Lent w' B g S K V l :=
  ⟨(hb.block _ (blk_lt h.box)).trans h.box, h.hg, rows_below h.s hb, rows_below h.k hb, rows_below h.v hb, h.it.keep hb, h.ne⟩
instance stb_lent {w w' : World} {B g : Nat} {S K V : Value} {l : List Itm} : Stb w w' (Lent w B g S K V l) (Lent w' B g S K V l) := ⟨fun h hb => h.keep hb⟩
def RetLn (w : World) (l : List SetD) (e : Ending) (w' : World) : Prop := ∃ g S K V is_, e = .returned (.pointer (some ⟨g, 0, none⟩)) ∧ is_.map Itm.s = l ∧ Lent w' w.heap.size g S K V is_ ∧ Below w.heap.size w w'
end Go.Proofs.Ytnhfeoniiadjfaa.Lst
/- append of one element, laid in a block, to a row of the call's own: a base of one's own. -/
namespace Go.Proofs.Ytnhfeoniiadjfaa.Lst
open Go.RowKit Go.Proofs.Ytnhfeoniiadjfaa.K Go.Proofs.Ytnhfeoniiadjfaa.Help Go.Proofs.Ytnhfeoniiadjfaa.Pfx Go.Proofs.Ytnhfeoniiadjfaa.Peer
set_option linter.unusedVariables false
theorem row_slice {w : World} {B n sz : Nat} {t : TypeId} {v : Value} {xs : List Value} (h : w.ownsRow B t sz v n xs) : ∃ A c, v = .slice A n c := by
  rcases h.2 with ⟨rfl, h0⟩ | ⟨g, cap, cur, rfl, _⟩
  · exact ⟨none, 0, by rw [h0]⟩
  · exact ⟨_, cap, rfl⟩
/-- cell j of a row's element i (elements of one cell) -/
theorem row_cell {w : World} {B n : Nat} {t : TypeId} {A : Option Addr} {c : Nat} {xs : List Value} (h : w.ownsRow B t 1 (.slice A n c) n xs) (i : Nat) (hi : i < n) : ∃ g, A = some ⟨g, 0, none⟩ ∧ B ≤ g ∧ n ≤ c ∧ w.cell? ⟨g, i, none⟩ = some (xs.getD i default) ∧ w.heap[g]? ≠ none := by
  rcases h.2 with ⟨h1, _⟩ | ⟨g, cap, cur, h1, hb, hh, hn, hm, hs, ht⟩
  · injection h1 with _ h1; omega
  · injection h1 with h1 _ h2
    subst h1 h2
    have hl : xs.length = n := by have := h.1; simpa using this
    have hc := h.cells (g := g) rfl i (xs.getD i default) (by rw [List.getElem?_eq_getElem (by omega), List.getD_eq_getElem?_getD, List.getElem?_eq_getElem (by omega)]; rfl)
    rw [addr_add_plain] at hc
    exact ⟨g, rfl, hb, hn, hc, by rw [hh]; simp⟩
section
variable {P : Program} {ops : Array Oper} {rest : List Oper} {o : Oper} {a : Act} {Q : Exit → Act → World → Prop}
theorem apB {B : Nat} {W : World} (t ts : TypeId) (z : Value) (sz bytes : Nat) (hgd : o.guard = none) (s xo : Operand)
    (ho : o.op = .call { callee := .builtin .append, args := #[s, xo], argTypes := #[ts, ts] })
    (ht : P.underlying ts = some (.slice t)) (hinfo : (P.info? t).map (fun i => (i.zero, i.size, i.bytes)) = some (some z, sz, bytes)) (hz : z.cells.size = sz) (hs0 : 0 < sz)
    (v : Value) (n : Nat) (xs ys : List Value) (g mc : Nat) (hs : a.eval s = v) (hx : a.eval xo = .slice (some ⟨g, 0, none⟩) 1 mc)
    (HO : W.ownsRow B t sz v n xs) (HX : W.heap[g]? = some (.cells ys.toArray t (0, 0))) (hy : ys.length = sz) (h1 : ∀ u ∈ ys, u.oneCell' = true) (hBW : B ≤ W.heap.size) (hn : n + 1 ≤ maxLen) (hl : (n + 1) * bytes ≤ 140737488355328)
    (h : ∀ A' c' w1, w1.ownsRow B t sz (.slice A' (n + 1) c') (n + 1) (xs ++ ys) → Only W w1 (fun k => v.ownBlock = some k) → (∀ k, (Value.slice A' (n + 1) c').ownBlock = some k → v.ownBlock = some k ∨ W.heap.size ≤ k) → wpList P ops Q rest (a.put o.dst (.slice A' (n + 1) c')) w1) :
    wpList P ops Q (o :: rest) a W := by
  obtain ⟨i0, hi, hzz⟩ := Option.map_eq_some_iff.1 hinfo
  simp only [Prod.mk.injEq] at hzz
  obtain ⟨hz0, hz1, hz2⟩ := hzz
  refine wpList_append_own_at W hgd s xo ts ho B t i0 z sz bytes ht hi hz0 hz1 hz2 hz hs0 v n xs hs HO ⟨g, 0, none⟩ 1 mc ys hx (by omega) ?_ h1 hn hl hBW ?_
  · intro j u hu
    rw [addr_add_plain]
    exact (blk_cell HX j).trans (by simpa using hu)
  · intro v1 w1 hown1 hg _ hat
    have k : Only W w1 (fun k => v.ownBlock = some k) := (Only.refl W (fun k => v.ownBlock = some k)).grown hg (fun k hk => .inl hk)
    obtain ⟨A', c', rfl⟩ := row_slice hown1
    refine h A' c' w1 hown1 k (fun k hk => ?_)
    rcases hat with hat | hat
    · exact .inl (by rw [← hat]; exact hk)
    · rw [hat] at hk; exact .inr (by injection hk with hk; omega)
theorem step_apB {B : Nat} {W : World} {K : Act → World → Prop} {F : Prop} (t ts : TypeId) (z : Value) (sz bytes : Nat) (hgd : o.guard = none) (s xo : Operand)
    (ho : o.op = .call { callee := .builtin .append, args := #[s, xo], argTypes := #[ts, ts] })
    (ht : P.underlying ts = some (.slice t)) (hinfo : (P.info? t).map (fun i => (i.zero, i.size, i.bytes)) = some (some z, sz, bytes)) (hz : z.cells.size = sz) (hs0 : 0 < sz)
    (v : Value) (n : Nat) (xs ys : List Value) (g mc : Nat) (hs : a.eval s = v) (hx : a.eval xo = .slice (some ⟨g, 0, none⟩) 1 mc)
    (HO : W.ownsRow B t sz v n xs) (HX : W.heap[g]? = some (.cells ys.toArray t (0, 0))) (hy : ys.length = sz) (h1 : ∀ u ∈ ys, u.oneCell' = true) (hBW : B ≤ W.heap.size) (hn : n + 1 ≤ maxLen) (hl : (n + 1) * bytes ≤ 140737488355328)
    (h : ∀ A' c' w1, w1.ownsRow B t sz (.slice A' (n + 1) c') (n + 1) (xs ++ ys) → Only W w1 (fun k => v.ownBlock = some k) → (∀ k, (Value.slice A' (n + 1) c').ownBlock = some k → v.ownBlock = some k ∨ W.heap.size ≤ k) → K (a.put o.dst (.slice A' (n + 1) c')) w1) :
    if Region.wanted o (yielded ops a.tmps) = true then Oper.wp P o a W K Q else F := by
  obtain ⟨i0, hi, hzz⟩ := Option.map_eq_some_iff.1 hinfo
  simp only [Prod.mk.injEq] at hzz
  obtain ⟨hz0, hz1, hz2⟩ := hzz
  refine step_append_lies W hgd s xo ts ho B t i0 z sz bytes ht hi hz0 hz1 hz2 hz hs0 v n xs hs HO ⟨g, 0, none⟩ 1 mc ys hx (by omega) ?_ h1 (by decide) hn hl hBW _ rfl ?_
  · intro j u hu
    rw [addr_add_plain]
    exact (blk_cell HX j).trans (by simpa using hu)
  · intro g1 cap w1 hown1 hg hat hlt
    have k : Only W w1 (fun k => v.ownBlock = some k) := (Only.refl W (fun k => v.ownBlock = some k)).grown hg (fun k hk => .inl hk)
    refine h _ cap w1 hown1 k (fun k hk => ?_)
    have e : g1 = k := by simpa [Value.ownBlock] using hk
    subst e
    rcases hat with hat | hat
    · exact .inl hat
    · exact .inr (by omega)
end
theorem info_bytes : (Try.prog.info? 27).map (fun i => (i.zero, i.size, i.bytes)) = some (some (.slice none 0 0), 1, 24) := by kernel_rfl
end Go.Proofs.Ytnhfeoniiadjfaa.Lst
/- The rows of what lend lends, while they grow. -/
namespace Go.Proofs.Ytnhfeoniiadjfaa.Lst
open Go.RowKit Go.Proofs.Ytnhfeoniiadjfaa.K Go.Proofs.Ytnhfeoniiadjfaa.Help Go.Proofs.Ytnhfeoniiadjfaa.Pfx Go.Proofs.Ytnhfeoniiadjfaa.Peer
set_option linter.unusedVariables false

/-- the box of lent and its three rows -/
structure LnB (w wr : World) (g : Nat) (S K V : Value) (ns nk nv : Nat) (xs ks vs : List Value) : Prop where
  box : wr.heap[g]? = some (.cells #[S, K, V] 41 (0, 0))
  hg : w.heap.size ≤ g
  s : wr.ownsRow w.heap.size 37 3 S ns xs
  k : wr.ownsRow w.heap.size 27 1 K nk ks
  v : wr.ownsRow w.heap.size 27 1 V nv vs
  ne : ∀ i, K.ownBlock = some i → V.ownBlock = some i → False
  b : Below w.heap.size w wr
section
variable {w wr w' w1 : World} {g ns nk nv : Nat} {S K V K' V' S' : Value} {xs ks vs ys : List Value}
theorem LnB.keep (h : LnB w wr g S K V ns nk nv xs ks vs) (hb : Below wr.heap.size wr w') : LnB w w' g S K V ns nk nv xs ks vs :=
  ⟨(hb.block _ (blk_lt h.box)).trans h.box, h.hg, rows_below h.s hb, rows_below h.k hb, rows_below h.v hb, h.ne, below_step h.b hb⟩
instance stb_lnb : Stb wr w' (LnB w wr g S K V ns nk nv xs ks vs) (LnB w w' g S K V ns nk nv xs ks vs) := ⟨fun h hb => h.keep hb⟩
theorem LnB.cS (h : LnB w wr g S K V ns nk nv xs ks vs) : wr.cell? ⟨g, 0, none⟩ = some S := (blk_cell h.box 0).trans rfl
theorem LnB.cK (h : LnB w wr g S K V ns nk nv xs ks vs) : wr.cell? ⟨g, 1, none⟩ = some K := (blk_cell h.box 1).trans rfl
theorem LnB.cV (h : LnB w wr g S K V ns nk nv xs ks vs) : wr.cell? ⟨g, 2, none⟩ = some V := (blk_cell h.box 2).trans rfl
theorem LnB.fr (h : LnB w wr g S K V ns nk nv xs ks vs) (j : Nat) : wr.frozen? ⟨g, j, none⟩ = false := blk_free h.box j
theorem LnB.gK (h : LnB w wr g S K V ns nk nv xs ks vs) : ¬ K.ownBlock = some g := fun e => by obtain ⟨cs, hc⟩ := rows_blk h.k e; exact blk_ne hc h.box (by decide) rfl
theorem LnB.gV (h : LnB w wr g S K V ns nk nv xs ks vs) : ¬ V.ownBlock = some g := fun e => by obtain ⟨cs, hc⟩ := rows_blk h.v e; exact blk_ne hc h.box (by decide) rfl
theorem LnB.gS (h : LnB w wr g S K V ns nk nv xs ks vs) : ¬ S.ownBlock = some g := fun e => by obtain ⟨cs, hc⟩ := rows_blk h.s e; exact blk_ne hc h.box (by decide) rfl
theorem LnB.sk (h : LnB w wr g S K V ns nk nv xs ks vs) : ∀ i, S.ownBlock = some i → ¬ K.ownBlock = some i := fun i e e2 => by
  obtain ⟨cs, hc⟩ := rows_blk h.s e
  obtain ⟨cs', hc'⟩ := rows_blk h.k e2
  exact blk_ne hc hc' (by decide) rfl
theorem LnB.sv (h : LnB w wr g S K V ns nk nv xs ks vs) : ∀ i, S.ownBlock = some i → ¬ V.ownBlock = some i := fun i e e2 => by
  obtain ⟨cs, hc⟩ := rows_blk h.s e
  obtain ⟨cs', hc'⟩ := rows_blk h.v e2
  exact blk_ne hc hc' (by decide) rfl
/-- the blocks that may be written over -/
theorem LnB.far (h : LnB w wr g S K V ns nk nv xs ks vs) : ∀ i, (i = g ∨ S.ownBlock = some i ∨ K.ownBlock = some i ∨ V.ownBlock = some i) → i < wr.heap.size → NotU8 wr i := by
  intro i hi _
  rcases hi with rfl | hi | hi | hi
  · exact ⟨_, _, _, h.box, by decide⟩
  · exact rows_notU8 h.s (by decide) hi
  · exact rows_notU8 h.k (by decide) hi
  · exact rows_notU8 h.v (by decide) hi
theorem LnB.base (h : LnB w wr g S K V ns nk nv xs ks vs) : ∀ i, (i = g ∨ S.ownBlock = some i ∨ K.ownBlock = some i ∨ V.ownBlock = some i) → w.heap.size ≤ i := by
  intro i hi
  rcases hi with rfl | hi | hi | hi
  · exact h.hg
  · exact rows_base h.s hi
  · exact rows_base h.k hi
  · exact rows_base h.v hi
theorem LnB.pushK (h : LnB w wr g S K V ns nk nv xs ks vs) (o : w1.ownsRow w.heap.size 27 1 K' (nk + 1) (ks ++ ys)) (k : Only wr w1 (fun i => K.ownBlock = some i)) (hat : ∀ i, K'.ownBlock = some i → K.ownBlock = some i ∨ wr.heap.size ≤ i) :
    LnB w (w1.setCell ⟨g, 1, none⟩ K') g S K' V ns (nk + 1) nv xs (ks ++ ys) vs ∧ Only wr (w1.setCell ⟨g, 1, none⟩ K') (fun i => i = g ∨ S.ownBlock = some i ∨ K.ownBlock = some i ∨ V.ownBlock = some i) := by
  have hb1 := k.blk h.box h.gK
  have k2 : Only w1 (w1.setCell ⟨g, 1, none⟩ K') (fun i => i = g) := (Only.refl w1 (fun i => i = g)).setCell (p := ⟨g, 1, none⟩) (.inl rfl) K'
  have hK' : ∀ i, K'.ownBlock = some i → ¬ i = g := fun i hi e => by
    subst e
    obtain ⟨cs, hc⟩ := rows_blk o hi
    exact blk_ne hc hb1 (by decide) rfl
  have hS : w1.ownsRow w.heap.size 37 3 S ns xs := row_keep h.s k h.sk
  have hV : w1.ownsRow w.heap.size 27 1 V nv vs := row_keep h.v k (fun i hi hk => h.ne i hk hi)
  have kk : Only wr (w1.setCell ⟨g, 1, none⟩ K') (fun i => i = g ∨ S.ownBlock = some i ∨ K.ownBlock = some i ∨ V.ownBlock = some i) :=
    (k.mono (fun i _ hi => .inr (.inr (.inl hi)))).then_ k2 (fun i hi => .inl (.inl hi))
  refine ⟨⟨?_, h.hg, row_keep hS k2 (fun i hi e => h.gS (by rw [← e]; exact hi)), row_keep o k2 hK', row_keep hV k2 (fun i hi e => h.gV (by rw [← e]; exact hi)), fun i h1 h2 => ?_, below_only h.b kk h.base⟩, kk⟩
  · have := blk_set hb1 1 K'
    simpa using this
  · rcases hat i h1 with h3 | h3
    · exact h.ne i h3 h2
    · have := rows_lt h.v h2; omega
theorem LnB.pushV (h : LnB w wr g S K V ns nk nv xs ks vs) (o : w1.ownsRow w.heap.size 27 1 V' (nv + 1) (vs ++ ys)) (k : Only wr w1 (fun i => V.ownBlock = some i)) (hat : ∀ i, V'.ownBlock = some i → V.ownBlock = some i ∨ wr.heap.size ≤ i) :
    LnB w (w1.setCell ⟨g, 2, none⟩ V') g S K V' ns nk (nv + 1) xs ks (vs ++ ys) ∧ Only wr (w1.setCell ⟨g, 2, none⟩ V') (fun i => i = g ∨ S.ownBlock = some i ∨ K.ownBlock = some i ∨ V.ownBlock = some i) := by
  have hb1 := k.blk h.box h.gV
  have k2 : Only w1 (w1.setCell ⟨g, 2, none⟩ V') (fun i => i = g) := (Only.refl w1 (fun i => i = g)).setCell (p := ⟨g, 2, none⟩) (.inl rfl) V'
  have hV' : ∀ i, V'.ownBlock = some i → ¬ i = g := fun i hi e => by
    subst e
    obtain ⟨cs, hc⟩ := rows_blk o hi
    exact blk_ne hc hb1 (by decide) rfl
  have hS : w1.ownsRow w.heap.size 37 3 S ns xs := row_keep h.s k h.sv
  have hK : w1.ownsRow w.heap.size 27 1 K nk ks := row_keep h.k k (fun i hi hk => h.ne i hi hk)
  have kk : Only wr (w1.setCell ⟨g, 2, none⟩ V') (fun i => i = g ∨ S.ownBlock = some i ∨ K.ownBlock = some i ∨ V.ownBlock = some i) :=
    (k.mono (fun i _ hi => .inr (.inr (.inr hi)))).then_ k2 (fun i hi => .inl (.inl hi))
  refine ⟨⟨?_, h.hg, row_keep hS k2 (fun i hi e => h.gS (by rw [← e]; exact hi)), row_keep hK k2 (fun i hi e => h.gK (by rw [← e]; exact hi)), row_keep o k2 hV', fun i h1 h2 => ?_, below_only h.b kk h.base⟩, kk⟩
  · have := blk_set hb1 2 V'
    simpa using this
  · rcases hat i h2 with h3 | h3
    · exact h.ne i h1 h3
    · have := rows_lt h.k h1; omega
theorem LnB.pushS (h : LnB w wr g S K V ns nk nv xs ks vs) {m : Nat} (o : w1.ownsRow w.heap.size 37 3 S' m ys) (k : Only wr w1 (fun i => S.ownBlock = some i)) :
    LnB w (w1.setCell ⟨g, 0, none⟩ S') g S' K V m nk nv ys ks vs ∧ Only wr (w1.setCell ⟨g, 0, none⟩ S') (fun i => i = g ∨ S.ownBlock = some i ∨ K.ownBlock = some i ∨ V.ownBlock = some i) := by
  have hb1 := k.blk h.box h.gS
  have k2 : Only w1 (w1.setCell ⟨g, 0, none⟩ S') (fun i => i = g) := (Only.refl w1 (fun i => i = g)).setCell (p := ⟨g, 0, none⟩) (.inl rfl) S'
  have hS' : ∀ i, S'.ownBlock = some i → ¬ i = g := fun i hi e => by
    subst e
    obtain ⟨cs, hc⟩ := rows_blk o hi
    exact blk_ne hc hb1 (by decide) rfl
  have hK : w1.ownsRow w.heap.size 27 1 K nk ks := row_keep h.k k (fun i hi hk => h.sk i hk hi)
  have hV : w1.ownsRow w.heap.size 27 1 V nv vs := row_keep h.v k (fun i hi hk => h.sv i hk hi)
  have kk : Only wr (w1.setCell ⟨g, 0, none⟩ S') (fun i => i = g ∨ S.ownBlock = some i ∨ K.ownBlock = some i ∨ V.ownBlock = some i) :=
    (k.mono (fun i _ hi => .inr (.inl hi))).then_ k2 (fun i hi => .inl (.inl hi))
  refine ⟨⟨?_, h.hg, row_keep o k2 hS', row_keep hK k2 (fun i hi e => h.gK (by rw [← e]; exact hi)), row_keep hV k2 (fun i hi e => h.gV (by rw [← e]; exact hi)), h.ne, below_only h.b kk h.base⟩, kk⟩
  have := blk_set hb1 0 S'
  simpa using this
end
end Go.Proofs.Ytnhfeoniiadjfaa.Lst
/- A drawn region whose last operation waits for all others: the others first, the last one behind them. -/
namespace Go.Proofs.Ytnhfeoniiadjfaa.Lst
set_option linter.unusedVariables false

/-- each operation has no guard and waits for earlier ones alone -/
def backB (ops : Array Oper) : Bool := (List.range ops.size).all fun j => match ops[j]? with
  | some o => o.guard.isNone && o.after.all fun e => !Region.binds .any e || decide (e.on < j)
  | none => false
/-- each operation but the last is waited for by a later one -/
def coverB (ops : Array Oper) : Bool := (List.range (ops.size - 1)).all fun i => (List.range ops.size).any fun j => decide (i < j) && match ops[j]? with
  | some o => o.after.any fun e => Region.binds .any e && e.on == i
  | none => false
theorem backB_at {ops : Array Oper} (h : backB ops = true) {j : Nat} {o : Oper} (ho : ops[j]? = some o) : o.guard = none ∧ ∀ e ∈ o.after, Region.binds .any e = true → e.on < j := by
  have hj : j < ops.size := (Array.getElem?_eq_some_iff.1 ho).1
  have := List.all_eq_true.1 h j (List.mem_range.2 hj)
  rw [ho] at this
  simp only [Bool.and_eq_true, Array.all_eq_true_iff_forall_mem, Bool.or_eq_true, Bool.not_eq_true', decide_eq_true_eq, Option.isNone_iff_eq_none] at this
  refine ⟨this.1, fun e he hb => ?_⟩
  rcases this.2 e he with h1 | h1
  · rw [hb] at h1; cases h1
  · exact h1
theorem coverB_at {ops : Array Oper} (h : coverB ops = true) {i : Nat} (hi : i < ops.size - 1) : ∃ j o e, i < j ∧ ops[j]? = some o ∧ e ∈ o.after ∧ Region.binds .any e = true ∧ e.on = i := by
  have := List.all_eq_true.1 h i (List.mem_range.2 hi)
  obtain ⟨j, hj, h1⟩ := List.any_eq_true.1 this
  rw [Bool.and_eq_true] at h1
  obtain ⟨h1, h2⟩ := h1
  cases ho : ops[j]? with
  | none => rw [ho] at h2; cases h2
  | some o =>
    rw [ho] at h2
    dsimp only at h2
    obtain ⟨k, hk, h3⟩ := Array.any_eq_true.1 h2
    rw [Bool.and_eq_true] at h3
    exact ⟨j, o, o.after[k], of_decide_eq_true h1, ho, Array.getElem_mem _, h3.1, by simpa using h3.2⟩

/-- the post of the others: the last operation is run -/
def LastQ (P : Program) (ops : Array Oper) (Q : Exit → Act → World → Prop) (n : Nat) : Exit → Act → World → Prop
  | .normal, a, w => wpOp P ops Q n (Q .normal) a w
  | .exit l, a, w => Q (.exit l) a w
  | .goto l, a, w => Q (.goto l) a w
  | .ret, a, w => Q .ret a w
  | .panic _, _, _ => False
  | .outgrown, a, w => Q .outgrown a w

section
variable {P : Program} {ops pre : Array Oper} {Q : Exit → Act → World → Prop}

/-- the lists of what has come up agree on the first n -/
def Agr (n : Nat) (l lp : Array Bool) : Prop := l.size = n + 1 ∧ lp.size = n ∧ ∀ i, i < n → l[i]? = lp[i]?
theorem Agr.set {n i : Nat} {l lp : Array Bool} (h : Agr n l lp) (hi : i < n) : Agr n (l.setIfInBounds i true) (lp.setIfInBounds i true) := by
  obtain ⟨h1, h2, h3⟩ := h
  refine ⟨by simpa using h1, by simpa using h2, fun j hj => ?_⟩
  rw [Array.getElem?_setIfInBounds, Array.getElem?_setIfInBounds, h3 j hj, h1, h2]
  simp [hi, Nat.lt_succ_of_lt hi]
theorem Agr.getD {n i : Nat} {l lp : Array Bool} (h : Agr n l lp) (hi : i < n) (d : Bool) : l.getD i d = lp.getD i d := by
  have := h.2.2 i hi
  simp only [Array.getD_eq_getD_getElem?, this]
/-- what has come up is closed under what it waited for -/
def Clo (ops : Array Oper) (l : Array Bool) : Prop := ∀ (j : Nat) (o : Oper), ops[j]? = some o → l.getD j false = true → ∀ e ∈ o.after, Region.binds .any e = true → l.getD e.on false = true
theorem Clo.set {l : Array Bool} (h : Clo ops l) {i : Nat} (hi : i ∈ Region.ready .any ops l) : Clo ops (l.setIfInBounds i true) := by
  intro j o ho hl e he hb
  refine getD_set_true ?_
  by_cases hji : i = j
  · subst hji
    obtain ⟨_, o2, ho2, h2⟩ := mem_ready.1 hi
    rw [ho] at ho2
    cases ho2
    exact h2 e he hb
  · rw [getD_set_ne false hji] at hl
    exact h j o ho hl e he hb
theorem getD_flip {l : Array Bool} {i : Nat} (h : i < l.size) (d e : Bool) : l.getD i d = l.getD i e := by simp [h]
theorem upon_last {o : Oper} {n : Nat} {a : Act} {w : World} {K : Act → World → Prop} (h : o.wp P a w K (LastQ P ops Q n)) : o.wp P a w K Q := by
  unfold Oper.wp at *
  generalize (execOp a.eval o).run P w = r at *
  cases r with
  | ok x w' =>
    cases x <;> simp only [Oper.upon] at h ⊢ <;>
      first
        | exact h
        | exact Calls.mono h (fun e w'' he => by cases e <;> first | exact he | exact (he : False).elim)
        | exact Rows.mono h (fun _ _ he => he)
  | halt x w' => cases x <;> simp only [Oper.upon] at h ⊢ <;> first | exact h | exact (h : False).elim
theorem wpOp_last {n i : Nat} {o : Oper} (h1 : ops[i]? = some o) (h2 : pre[i]? = some o) (hg : o.guard = none) {a : Act} {w : World} {K : Act → World → Prop} (h : wpOp P pre (LastQ P ops Q n) i K a w) : wpOp P ops Q i K a w := by
  unfold wpOp at *
  rw [h2] at h
  rw [h1]
  have hw : ∀ y, Region.wanted o y = true := fun y => by unfold Region.wanted; rw [hg]
  dsimp only at *
  rw [hw, if_pos rfl] at *
  rcases h with h | ⟨h, h3⟩
  · exact .inl (upon_last h)
  · exact .inr ⟨h, h3⟩
/-- all but the last have come up -/
theorem all_of_ready {n : Nat} (hb : backB ops = true) (hn : ops.size = n + 1) (hp : ∀ i, i < n → pre[i]? = ops[i]?) {l lp : Array Bool} (hA : Agr n l lp) (h : Region.ready .any pre lp = []) : ∀ i, i < n → l.getD i false = true := by
  intro i
  induction i using Nat.strongRecOn with
  | _ i ih =>
    intro hi
    cases hl : l.getD i false with
    | true => rfl
    | false =>
      exfalso
      have ho : ops[i]? = some ops[i] := Array.getElem?_eq_getElem (by omega)
      have : i ∈ Region.ready .any pre lp := mem_ready.2 ⟨by rw [← hA.getD hi, getD_flip (by rw [hA.1]; omega) true false]; exact hl, _, (hp i hi).trans ho, fun e he hb2 => by
        have hlt := (backB_at hb ho).2 e he hb2
        rw [← hA.getD (by omega)]
        exact ih _ hlt (by omega)⟩
      rw [h] at this
      cases this
theorem all_of_last {n : Nat} (hc : coverB ops = true) (hn : ops.size = n + 1) {l : Array Bool} (hs : l.size = n + 1) (hC : Clo ops l) (h : n ∈ Region.ready .any ops l) : ∀ k i, i < n → n - i ≤ k → l.getD i false = true := by
  obtain ⟨_, oL, hoL, hL⟩ := mem_ready.1 h
  intro k
  induction k with
  | zero => intro i hi hk; omega
  | succ k ih =>
    intro i hi hk
    obtain ⟨j, o, e, hij, ho, he, hb, rfl⟩ := coverB_at hc (i := i) (by omega)
    have hj : j < ops.size := (Array.getElem?_eq_some_iff.1 ho).1
    by_cases hjn : j = n
    · subst hjn
      rw [hoL] at ho
      cases ho
      exact hL e he hb
    · exact hC j o ho (ih j (by omega) (by omega)) e he hb
/-- all but the last having come up, the last one is run -/
theorem wpAny_end {n : Nat} (hb : backB ops = true) (hn : ops.size = n + 1) {l : Array Bool} (hs : l.size = n + 1) (hl : l.getD n true = false) (hall : ∀ i, i < n → l.getD i false = true) {a : Act} {w : World} (h : wpOp P ops Q n (Q .normal) a w) : ∀ k, wpAny P .any ops Q (k + 1) l a w := by
  intro k
  have ho : ops[n]? = some ops[n] := Array.getElem?_eq_getElem (by omega)
  have hr : n ∈ Region.ready .any ops l := mem_ready.2 ⟨hl, _, ho, fun e he hb2 => hall _ ((backB_at hb ho).2 e he hb2)⟩
  refine ⟨fun h0 => (by rw [h0] at hr; cases hr), fun i hi => ?_⟩
  obtain ⟨h1, o, ho2, _⟩ := mem_ready.1 hi
  have hlt : i < ops.size := (Array.getElem?_eq_some_iff.1 ho2).1
  have hin : i = n := by
    by_cases hin : i = n
    · exact hin
    · have := hall i (by omega)
      rw [getD_flip (by omega) false true, h1] at this
      cases this
  subst hin
  have hnone : Region.ready .any ops (l.setIfInBounds i true) = [] := by
    rw [List.eq_nil_iff_forall_not_mem]
    intro j hj
    obtain ⟨h3, o3, ho3, _⟩ := mem_ready.1 hj
    have hlt3 : j < ops.size := (Array.getElem?_eq_some_iff.1 ho3).1
    by_cases hji : i = j
    · subst hji; simp [hs] at h3
    · rw [getD_set_ne true hji] at h3
      have := hall j (by omega)
      rw [getD_flip (by omega) false true, h3] at this
      cases this
  refine wpOp_mono (fun a' w' hq => ?_) h
  cases k with
  | zero => exact ⟨hnone, hq⟩
  | succ k => exact ⟨fun _ => hq, by rw [hnone]; simp⟩
theorem wpAny_last {n : Nat} (hb : backB ops = true) (hc : coverB ops = true) (hn : ops.size = n + 1) (hp : ∀ i, i < n → pre[i]? = ops[i]?) (hpn : pre.size = n) : ∀ (fuel : Nat) (l lp : Array Bool) (a : Act) (w : World), Agr n l lp → l.getD n true = false → Clo ops l →
    wpAny P .any pre (LastQ P ops Q n) fuel lp a w → wpAny P .any ops Q (fuel + 1) l a w := by
  intro fuel
  induction fuel with
  | zero =>
    intro l lp a w hA hl hC h
    exact wpAny_end hb hn hA.1 hl (all_of_ready hb hn hp hA h.1) h.2 0
  | succ fuel ih =>
    intro l lp a w hA hl hC h
    by_cases hr : Region.ready .any pre lp = []
    · exact wpAny_end hb hn hA.1 hl (all_of_ready hb hn hp hA hr) (h.1 hr) (fuel + 1)
    · have up : ∀ i, i < n → i ∈ Region.ready .any ops l → i ∈ Region.ready .any pre lp := fun i hi h1 => by
        obtain ⟨h1, o, ho, h2⟩ := mem_ready.1 h1
        exact mem_ready.2 ⟨by rw [← hA.getD hi]; exact h1, o, (hp i hi).trans ho, fun e he hb2 => by
          have hlt := (backB_at hb ho).2 e he hb2
          rw [← hA.getD (by omega)]
          exact h2 e he hb2⟩
      have dn : ∀ i, i ∈ Region.ready .any pre lp → i < n ∧ i ∈ Region.ready .any ops l := fun i h1 => by
        obtain ⟨h1, o, ho, h2⟩ := mem_ready.1 h1
        have hi : i < n := by have := (Array.getElem?_eq_some_iff.1 ho).1; omega
        have ho2 := (hp i hi).symm.trans ho
        exact ⟨hi, mem_ready.2 ⟨by rw [hA.getD hi]; exact h1, o, ho2, fun e he hb2 => by
          have hlt := (backB_at hb ho2).2 e he hb2
          rw [hA.getD (by omega)]
          exact h2 e he hb2⟩⟩
      refine ⟨fun h0 => ?_, fun i hi => ?_⟩
      · obtain ⟨x, hx⟩ := List.exists_mem_of_ne_nil _ hr
        have := (dn x hx).2
        rw [h0] at this
        cases this
      · obtain ⟨_, o, ho, _⟩ := mem_ready.1 hi
        have hlt : i < ops.size := (Array.getElem?_eq_some_iff.1 ho).1
        by_cases hin : i = n
        · exfalso
          subst hin
          obtain ⟨x, hx⟩ := List.exists_mem_of_ne_nil _ hr
          have hx2 := dn x hx
          have := all_of_last hc hn hA.1 hC hi i x hx2.1 (by omega)
          rw [getD_flip (by rw [hA.1]; omega) false true, (mem_ready.1 hx2.2).1] at this
          cases this
        · have hi' : i < n := by omega
          refine wpOp_mono (fun a' w' h3 => ?_) (wpOp_last ho ((hp i hi').trans ho) (backB_at hb ho).1 (h.2 i (up i hi' hi)))
          exact ih _ _ a' w' (hA.set hi') (by rw [getD_set_ne true hin]; exact hl) (hC.set hi) h3
/-- THE BEGINNING: the region's others, under S; then the last operation. -/
theorem wp_region_last {S : World → Prop} {id : Nat} {a : Act} {w : World} (hm : P.follows .mixedOrders = true) (pre : Array Oper) (hb : backB ops = true) (hc : coverB ops = true) (hn : ops.size = pre.size + 1) (hp : ∀ i, i < pre.size → pre[i]? = ops[i]?) (hS : S w.drew)
    (h : S w.drew → wpAnyH P .any pre (LastQ P ops Q pre.size) S pre.size (Array.replicate pre.size false) a w.drew) : (Code.region id ops true).wp P Q a w := by
  refine wp_region_any hm ?_
  rw [hn]
  refine wpAny_last hb hc hn hp rfl pre.size _ _ a _ ⟨by simp, by simp, fun i hi => by simp [hi, Nat.lt_succ_of_lt hi]⟩ (by simp) (fun j o _ hl => ?_) (wpAny_of_held _ _ _ _ (h hS))
  exfalso
  have h0 : (Array.replicate (pre.size + 1) false).getD j false = false := by rw [Array.getD_eq_getD_getElem?, Array.getElem?_replicate]; split <;> rfl
  rw [h0] at hl
  cases hl
/-- the same, for a region that is written out -/
theorem wp_region_pop (S : World → Prop) {id : Nat} {a : Act} {w : World} (hm : P.follows .mixedOrders = true) {pre : Array Oper} (hpre : ops.pop = pre) {m : Nat} (hsz : pre.size = m) {l0 : Array Bool} (hl : Array.replicate m false = l0) (hb : backB ops = true) (hc : coverB ops = true) (hne : decide (0 < ops.size) = true) (hS : S w.drew)
    (h : ∀ Q' : Exit → Act → World → Prop, Shut (∀ a w, wpOp P ops Q m (Q .normal) a w → Q' .normal a w) → (∀ c a a' w, Q' (.panic c) a w → Q' (.panic c) a' w) → S w.drew → wpAnyH P .any pre Q' S m l0 a w.drew) : (Code.region id ops true).wp P Q a w := by
  subst hpre hsz hl
  have hne := of_decide_eq_true hne
  exact wp_region_last hm ops.pop hb hc (by simp; omega) (fun i hi => by simp only [Array.size_pop] at hi; rw [Array.getElem?_pop]; simp; omega) hS (fun hS2 => h (LastQ P ops Q ops.pop.size) (fun _ _ hq => hq) (fun _ _ _ _ hq => hq) hS2)
end
end Go.Proofs.Ytnhfeoniiadjfaa.Lst
/- The walk of lend. -/
namespace Go.Proofs.Ytnhfeoniiadjfaa.Lst
open Go.RowKit Go.Proofs.Ytnhfeoniiadjfaa.K Go.Proofs.Ytnhfeoniiadjfaa.Help Go.Proofs.Ytnhfeoniiadjfaa.Pfx Go.Proofs.Ytnhfeoniiadjfaa.Peer
set_option linter.unusedVariables false

set_option maxRecDepth 100000 in
set_option maxHeartbeats 4000000 in
theorem lend_any (A : Option Addr) (a : Nat) (l : List SetD) (w : World) (hs : Lst SetE w (fun _ => False) A a l) (hm : l.length ≤ 2000) (hk : ∀ i, i < l.length → shortAt l i) :
    Calls Try.prog 11 #[.slice A l.length a] w (RetLn w l) := by
  have HS := Lib.hid hs
  have h1 := hs.le
  have h2 := hs.max
  have HSH := Lib.hid hk
  have HM := Lib.hid hm
  clear hs hk
  have hbox := blk_new w (.cells #[.slice none 0 0, .slice none 0 0, .slice none 0 0] 41)
  have LB0 : Hid (LnB w (w.alloc (.cells #[.slice none 0 0, .slice none 0 0, .slice none 0 0] 41)) w.heap.size (.slice none 0 0) (.slice none 0 0) (.slice none 0 0) 0 0 0 [] [] []) :=
    Lib.hid ⟨hbox, Nat.le_refl _, ⟨by simp, .inl ⟨rfl, rfl⟩⟩, ⟨by simp, .inl ⟨rfl, rfl⟩⟩, ⟨by simp, .inl ⟨rfl, rfl⟩⟩, fun i h => by simp [Value.ownBlock] at h, below_alloc (Below.refl _ _) _⟩
  clear hbox
  generalize hn : l.length = n at *
  have HN := Lib.hid hn
  clear hn
  go_enter Try.func11, Try.ntmps11
  go_wp2_with fail
  go_loopg [4] n (fun gk i wr => ∃ k : Nat, k ≤ n ∧ gk = n - k ∧ i = .int .i64 (k : Int) ∧ Hid (∃ S K V is_, LnB w wr w.heap.size S K V k k k (is_.flatMap Itm.rs) (is_.map Itm.rk) (is_.map Itm.rv) ∧ Lnt wr w.heap.size is_ ∧ is_.map Itm.s = l.take k))
  case atStart => exact ⟨0, by omega, rfl, rfl, Lib.hid ⟨_, _, _, [], LB0.out, Lnt.nil _ _, by simp⟩⟩
  case round =>
    clear LB0
    obtain ⟨k, hk, rfl, rfl, HH⟩ := hrel
    obtain ⟨S, K, V, is_, hB, hL, he⟩ := HH.out
    obtain ⟨AS, cS, rfl⟩ := row_slice hB.s
    obtain ⟨AK, cK, rfl⟩ := row_slice hB.k
    obtain ⟨AV, cV, rfl⟩ := row_slice hB.v
    have LB := Lib.hid hB
    have LI := Lib.hid hL
    have HE := Lib.hid he
    clear HH hB hL he
    by_cases hlt : k < n
    · have i1 : (k : Int) < (n : Int) := by omega
      have i0 : (0 : Int) ≤ (k : Int) := by omega
      obtain ⟨bk, off, A1, a1, B1, b1, rfl, hbk, c0, c1, c2, s1, s2⟩ := HS.out.set k _ (getD_get zeroSet (by rw [HN.out]; exact hlt))
      have hsh := HSH.out k hlt
      unfold shortAt at hsh
      have HT := Lib.hid (take_getS l k (by rw [HN.out]; exact hlt))
      obtain ⟨⟨xk, xv, xg⟩, hx⟩ : ∃ y, l.getD k zeroSet = y := ⟨_, rfl⟩
      rw [hx] at c0 c1 c2 s1 s2 HT hsh
      dsimp only at c0 c1 c2 hsh
      have S1 := Lib.hid s1.1
      have S2 := Lib.hid s2.1
      have HL1 : Hid (xk.length ≤ 2000) := Lib.hid hsh.1
      have HL2 : Hid (xv.length ≤ 2000) := Lib.hid hsh.2
      have C0 := Lib.hid c0
      have C1 := Lib.hid c1
      have C2 := Lib.hid c2
      have HBK := Lib.hid hbk
      have y0 : wr.cell? ⟨bk, off + k * 3, none⟩ = some (.slice A1 xk.length a1) := (LB.out.b.cell (p := ⟨bk, _, none⟩) hbk).trans c0
      have P1 := Lib.hid (Help.bytes A1 a1 xk wr (S1.out.below LB.out.b))
      clear c0 c1 c2 s1 s2 hx hsh hbk
      go_wp2_with fail
      (with_reducible refine P1.out.mono ?_)
      rintro e w2 ⟨v2, rfl, o2, hb2⟩
      obtain ⟨A2, a2, rfl, -⟩ := o2.bs
      have hb3 := below_alloc (Below.refl w2.heap.size w2) (.cells #[.int .u8 161, .int .u8 162] 5)
      have O3 := Lib.hid (o2.below hb3)
      have M3 : Hid (Bs (w2.alloc (.cells #[.int .u8 161, .int .u8 162] 5)) (some ⟨w2.heap.size, 0, none⟩) 2 [161, 162]) := Lib.hid (two_bs w2 161 162)
      have B3 := Lib.hid (below_step hb2 hb3)
      have Z3 := Lib.hid B3.out.size
      clear o2 hb2 hb3 P1 y0
      go_wp2_with (at_builtin; refine push_any (B := wr.heap.size) rfl (.tmp 20) (.tmp 21) rfl (.slice A2 xk.length a2) xk [161, 162] (some ⟨w2.heap.size, 0, none⟩) 2 rfl rfl O3.out M3.out Z3.out (by have := HL1.out; simp only [List.length_cons, List.length_nil]; omega) ?_; intro A4 c4 w4 o4 k4; obtain ⟨gk, ck, ev, g1, g2, g3, byk⟩ := own_byt o4 (by rw [app2_len]; omega); cases ev; have G3 := Lib.hid g3; rw [app2_len] at g2 ⊢; have G1 := Lib.hid g1; have G2 := Lib.hid g2; have BYK := Lib.hid byk; have B4 := Lib.hid (below_only B3.out k4 (fun i hi => O3.out.base_le hi)); have y1 : w4.cell? ⟨bk, off + k * 3 + 1, none⟩ = some (.slice B1 xv.length b1) := ((below_step LB.out.b B4.out).cell (p := ⟨bk, _, none⟩) HBK.out).trans C1.out; clear o4 k4 g1 g2 g3 byk)
      have P4 := Lib.hid (Help.bytes B1 b1 xv w4 (S2.out.below (below_step LB.out.b B4.out)))
      (with_reducible refine P4.out.mono ?_)
      rintro e w5 ⟨v5, rfl, o5, hb5⟩
      obtain ⟨A5, a5, rfl, -⟩ := o5.bs
      have hb6 := below_alloc (Below.refl w5.heap.size w5) (.cells #[.int .u8 163, .int .u8 164] 5)
      have O6 := Lib.hid (o5.below hb6)
      have M6 : Hid (Bs (w5.alloc (.cells #[.int .u8 163, .int .u8 164] 5)) (some ⟨w5.heap.size, 0, none⟩) 2 [163, 164]) := Lib.hid (two_bs w5 163 164)
      have B6 := Lib.hid (below_step hb5 hb6)
      have Z6 := Lib.hid B6.out.size
      clear o5 hb5 hb6 P4 y1
      go_wp2_with (first
        | (at_builtin; refine apB (B := w.heap.size) 27 39 _ 1 24 rfl (.tmp 45) (.tmp 47) rfl Try.underlying39 info_bytes rfl (by decide) (.slice AV k cV) k (is_.map Itm.rv) [Value.slice (some ⟨gv, 0, none⟩) (xv.length + 2) c7] (w9.setCell ⟨w.heap.size, 1, none⟩ (.slice A9 (k + 1) c9)).heap.size 1 rfl (by simp; rfl) LB10.out.v X10.out rfl (by simp [Value.oneCell']) LB10.out.b.size (by unfold maxLen; have := HM.out; omega) (by have := HM.out; omega) ?_; intro A11 c11 w11 o11 k11 n11; have PV := Lib.hid (LB10.out.pushV o11 k11 n11); have HV11 := Lib.hid (k11.blk LB10.out.box LB10.out.gV); have f2 := (blk_cell HV11.out 2).trans (b := some (Value.slice AV k cV)) rfl; have z2 := blk_free HV11.out 2; clear o11 k11 n11)
        | (at_builtin; refine apB (B := w.heap.size) 27 39 _ 1 24 rfl (.tmp 35) (.tmp 37) rfl Try.underlying39 info_bytes rfl (by decide) (.slice AK k cK) k (is_.map Itm.rk) [Value.slice (some ⟨gk, 0, none⟩) (xk.length + 2) c4] w7.heap.size 1 rfl rfl LB8.out.k X8.out rfl (by simp [Value.oneCell']) LB8.out.b.size (by unfold maxLen; have := HM.out; omega) (by have := HM.out; omega) ?_; intro A9 c9 w9 o9 k9 n9; have PK := Lib.hid (LB8.out.pushK o9 k9 n9); have HK9 := Lib.hid (k9.blk LB8.out.box LB8.out.gK); have f1 := (blk_cell HK9.out 1).trans (b := some (Value.slice AK k cK)) rfl; have z1 := blk_free HK9.out 1; have g2 := PK.out.1.cV; have hb10 := below_alloc (Below.refl (w9.setCell ⟨w.heap.size, 1, none⟩ (.slice A9 (k + 1) c9)).heap.size (w9.setCell ⟨w.heap.size, 1, none⟩ (.slice A9 (k + 1) c9))) (.cells #[Value.slice (some ⟨gv, 0, none⟩) (xv.length + 2) c7] 27); have LB10 := Lib.hid (PK.out.1.keep hb10); have X10 := Lib.hid (blk_new (w9.setCell ⟨w.heap.size, 1, none⟩ (.slice A9 (k + 1) c9)) (.cells #[Value.slice (some ⟨gv, 0, none⟩) (xv.length + 2) c7] 27)); clear o9 k9 n9 hb10)
        | (at_builtin; refine push_any (B := w4.heap.size) rfl (.tmp 28) (.tmp 29) rfl (.slice A5 xv.length a5) xv [163, 164] (some ⟨w5.heap.size, 0, none⟩) 2 rfl rfl O6.out M6.out Z6.out (by have := HL2.out; simp only [List.length_cons, List.length_nil]; omega) ?_; intro A7 c7 w7 o7 k7; obtain ⟨gv, cv', ev, g1, g2, g3, byv⟩ := own_byt o7 (by rw [app2_len]; omega); cases ev; have V3 := Lib.hid g3; rw [app2_len] at g2 ⊢; have V1 := Lib.hid g1; have V2 := Lib.hid g2; have BYV := Lib.hid byv; have B7 := Lib.hid (below_only B6.out k7 (fun i hi => O6.out.base_le hi)); have LB7 := hkeep (below_step B4.out B7.out) LB; have y2 := LB7.out.cK; have hb8 := below_alloc (Below.refl w7.heap.size w7) (.cells #[Value.slice (some ⟨gk, 0, none⟩) (xk.length + 2) c4] 27); have LB8 := hkeep hb8 LB7; have X8 := Lib.hid (blk_new w7 (.cells #[Value.slice (some ⟨gk, 0, none⟩) (xk.length + 2) c4] 27)); clear o7 k7 g1 g2 g3 byv hb8))
      obtain ⟨t, ht⟩ : ∃ t : Itm, t = ⟨(xk, xv, xg), gk, c4, gv, c7⟩ := ⟨_, rfl⟩
      have ers : t.rs = [.slice (some ⟨gk, 0, none⟩) xk.length (xk.length + 2), .slice (some ⟨gv, 0, none⟩) xv.length (xv.length + 2), .bool xg] := by rw [ht]; rfl
      have erk : t.rk = .slice (some ⟨gk, 0, none⟩) (xk.length + 2) c4 := by rw [ht]; rfl
      have erv : t.rv = .slice (some ⟨gv, 0, none⟩) (xv.length + 2) c7 := by rw [ht]; rfl
      have es : t.s = (xk, xv, xg) := by rw [ht]
      have hok : t.ok w7 w.heap.size := by
        rw [ht]
        exact ⟨Nat.le_trans LB.out.b.size G1.out, Nat.lt_of_lt_of_le BYK.out.lt V1.out, BYK.out.keep B7.out, BYV.out, G2.out, V2.out, G3.out, V3.out, HL1.out, HL2.out⟩
      have hit7 := LI.out.push hok (below_step B4.out B7.out) (by rw [ht]; exact G1.out)
      have hit8 := (hit7.keep (below_alloc (Below.refl w7.heap.size w7) (.cells #[Value.slice (some ⟨gk, 0, none⟩) (xk.length + 2) c4] 27))).far PK.out.2 LB8.out.far
      have hit9 := (hit8.keep (below_alloc (Below.refl _ _) (.cells #[Value.slice (some ⟨gv, 0, none⟩) (xv.length + 2) c7] 27))).far PV.out.2 LB10.out.far
      have HIT := Lib.hid hit9
      have LBW := Lib.hid PV.out.1
      have ERS := Lib.hid ers
      have ERK := Lib.hid erk
      have ERV := Lib.hid erv
      have ES := Lib.hid es
      have hcK := fun (W : World) (z : Int) (hz : z = (xk.length : Int) + 2) => run_lent (g := gk) G2.out z hz W
      have hcV := fun (W : World) (z : Int) (hz : z = (xv.length : Int) + 2) => run_lent (g := gv) V2.out z hz W
      have hcK1 := fun W => hcK W _ rfl
      have hcV1 := fun W => hcV W _ rfl
      have hcK2 := fun W => hcK W ((xk.length + 2 : Nat) : Int) (by push_cast; rfl)
      have hcV2 := fun W => hcV W ((xv.length + 2 : Nat) : Int) (by push_cast; rfl)
      clear hcK hcV ers erk erv es ht hok hit7 hit8 hit9 PK PV LB8 LB10 X8 X10 LB7 LB LI HK9 HV11 f1 f2 z1 z2 g2 y2 O3 M3 B3 Z3 O6 M6 B6 Z6 B4 B7 BYK BYV G1 G2 G3 V1 V2 V3
      generalize w11.setCell ⟨w.heap.size, 2, none⟩ (.slice A11 (k + 1) c11) = W at *
      have e0 := LBW.out.cS
      have q0 := (LBW.out.b.cell (p := ⟨bk, off + k * 3, none⟩) HBK.out).trans C0.out
      have q1 := (LBW.out.b.cell (p := ⟨bk, off + k * 3 + 1, none⟩) HBK.out).trans C1.out
      have q2 := (LBW.out.b.cell (p := ⟨bk, off + k * 3 + 2, none⟩) HBK.out).trans C2.out
      have hb12 := below_drewN (below_alloc (Below.refl W.heap.size W) (.cells #[Value.slice (some ⟨gk, 0, none⟩) xk.length (xk.length + 2), .slice (some ⟨gv, 0, none⟩) xv.length (xv.length + 2), .bool xg] 37)) 1
      have LBA := Lib.hid (LBW.out.keep hb12)
      have XA : Hid (((W.alloc (.cells #[Value.slice (some ⟨gk, 0, none⟩) xk.length (xk.length + 2), .slice (some ⟨gv, 0, none⟩) xv.length (xv.length + 2), .bool xg] 37)).drewN 1).heap[W.heap.size]? = some (.cells #[Value.slice (some ⟨gk, 0, none⟩) xk.length (xk.length + 2), .slice (some ⟨gv, 0, none⟩) xv.length (xv.length + 2), .bool xg] 37 (0, 0))) := Lib.hid (blk_new W _)
      have ITA := Lib.hid (HIT.out.keep hb12)
      have e1 := LBA.out.cS
      have e2 : (W.alloc (.cells #[Value.slice (some ⟨gk, 0, none⟩) xk.length (xk.length + 2), .slice (some ⟨gv, 0, none⟩) xv.length (xv.length + 2), .bool xg] 37)).cell? ⟨w.heap.size, 0, none⟩ = some (.slice AS k cS) := e1
      clear hb12 HIT LBW
      refine wp_region_pop (fun w' => w'.cell? ⟨bk, off + k * 3, none⟩ = some (.slice A1 xk.length a1) ∧ w'.cell? ⟨bk, off + k * 3 + 1, none⟩ = some (.slice B1 xv.length b1) ∧ w'.cell? ⟨bk, off + k * 3 + 2, none⟩ = some (.bool xg) ∧ w'.cell? ⟨w.heap.size, 0, none⟩ = some (.slice AS k cS)) (by kernel_rfl) (by simp only [List.pop_toArray, List.dropLast_cons_cons, List.dropLast_singleton]; exact rfl) (m := 35) rfl (l0 := #[false, false, false, false, false, false, false, false, false, false, false, false, false, false, false, false, false, false, false, false, false, false, false, false, false, false, false, false, false, false, false, false, false, false, false]) rfl (by kernel_rfl) (by kernel_rfl) (by kernel_rfl) ⟨q0, q1, q2, e0⟩ (fun Q2 HQ HP hHeld => ?_)
      refine wpAnyH_take (i := 0) (oi := ?o0) (v := ?v0) ?hi0 (by kernel_rfl) (by kernel_rfl) (by kernel_rfl) (fun c a2 w2 h2 => HP c _ _ w2 h2) (Or.inl ⟨?hw0, ?hy0⟩) hHeld ?hr0
      case hi0 => (simp only [List.getElem?_toArray, List.getElem?_cons_zero]; exact rfl)
      case hw0 => rfl
      case hy0 => (intro w2 hS2; (try dsimp only at hS2); first | (go_simp; done) | (go_simp; with_reducible rfl))
      try simp only [Act.put, List.setIfInBounds_toArray, List.set_cons_zero, List.set_cons_succ]
      refine wpAnyH_take (i := 1) (oi := ?o1) (v := ?v1) ?hi1 (by kernel_rfl) (by kernel_rfl) (by kernel_rfl) (fun c a2 w2 h2 => HP c _ _ w2 h2) (Or.inl ⟨?hw1, ?hy1⟩) hHeld ?hr1
      case hi1 => (simp only [List.getElem?_toArray, List.getElem?_cons_succ, List.getElem?_cons_zero]; exact rfl)
      case hw1 => rfl
      case hy1 => (intro w2 hS2; (try dsimp only at hS2); first | (go_simp; done) | (go_simp; with_reducible rfl))
      try simp only [Act.put, List.setIfInBounds_toArray, List.set_cons_zero, List.set_cons_succ]
      refine wpAnyH_take (i := 2) (oi := ?o2) (v := ?v2) ?hi2 (by kernel_rfl) (by kernel_rfl) (by kernel_rfl) (fun c a2 w2 h2 => HP c _ _ w2 h2) (Or.inl ⟨?hw2, ?hy2⟩) hHeld ?hr2
      case hi2 => (simp only [List.getElem?_toArray, List.getElem?_cons_succ, List.getElem?_cons_zero]; exact rfl)
      case hw2 => rfl
      case hy2 => (intro w2 hS2; (try dsimp only at hS2); first | (go_simp; done) | (go_simp; with_reducible rfl))
      try simp only [Act.put, List.setIfInBounds_toArray, List.set_cons_zero, List.set_cons_succ]
      refine wpAnyH_take (i := 3) (oi := ?o3) (v := ?v3) ?hi3 (by kernel_rfl) (by kernel_rfl) (by kernel_rfl) (fun c a2 w2 h2 => HP c _ _ w2 h2) (Or.inl ⟨?hw3, ?hy3⟩) hHeld ?hr3
      case hi3 => (simp only [List.getElem?_toArray, List.getElem?_cons_succ, List.getElem?_cons_zero]; exact rfl)
      case hw3 => rfl
      case hy3 => (intro w2 hS2; (try dsimp only at hS2); first | (go_simp; done) | (go_simp; with_reducible rfl))
      try simp only [Act.put, List.setIfInBounds_toArray, List.set_cons_zero, List.set_cons_succ]
      refine wpAnyH_take (i := 4) (oi := ?o4) (v := ?v4) ?hi4 (by kernel_rfl) (by kernel_rfl) (by kernel_rfl) (fun c a2 w2 h2 => HP c _ _ w2 h2) (Or.inl ⟨?hw4, ?hy4⟩) hHeld ?hr4
      case hi4 => (simp only [List.getElem?_toArray, List.getElem?_cons_succ, List.getElem?_cons_zero]; exact rfl)
      case hw4 => rfl
      case hy4 => (intro w2 hS2; (try dsimp only at hS2); first | (go_simp; done) | (go_simp; with_reducible rfl))
      try simp only [Act.put, List.setIfInBounds_toArray, List.set_cons_zero, List.set_cons_succ]
      refine wpAnyH_take (i := 5) (oi := ?o5) (v := ?v5) ?hi5 (by kernel_rfl) (by kernel_rfl) (by kernel_rfl) (fun c a2 w2 h2 => HP c _ _ w2 h2) (Or.inl ⟨?hw5, ?hy5⟩) hHeld ?hr5
      case hi5 => (simp only [List.getElem?_toArray, List.getElem?_cons_succ, List.getElem?_cons_zero]; exact rfl)
      case hw5 => rfl
      case hy5 => (intro w2 hS2; (try dsimp only at hS2); first | (go_simp; done) | (go_simp; with_reducible rfl))
      try simp only [Act.put, List.setIfInBounds_toArray, List.set_cons_zero, List.set_cons_succ]
      refine wpAnyH_take (i := 6) (oi := ?o6) (v := ?v6) ?hi6 (by kernel_rfl) (by kernel_rfl) (by kernel_rfl) (fun c a2 w2 h2 => HP c _ _ w2 h2) (Or.inl ⟨?hw6, ?hy6⟩) hHeld ?hr6
      case hi6 => (simp only [List.getElem?_toArray, List.getElem?_cons_succ, List.getElem?_cons_zero]; exact rfl)
      case hw6 => rfl
      case hy6 => (intro w2 hS2; (try dsimp only at hS2); first | (go_simp; done) | (go_simp; with_reducible rfl))
      try simp only [Act.put, List.setIfInBounds_toArray, List.set_cons_zero, List.set_cons_succ]
      refine wpAnyH_take (i := 7) (oi := ?o7) (v := ?v7) ?hi7 (by kernel_rfl) (by kernel_rfl) (by kernel_rfl) (fun c a2 w2 h2 => HP c _ _ w2 h2) (Or.inl ⟨?hw7, ?hy7⟩) hHeld ?hr7
      case hi7 => (simp only [List.getElem?_toArray, List.getElem?_cons_succ, List.getElem?_cons_zero]; exact rfl)
      case hw7 => rfl
      case hy7 => (intro w2 hS2; (try dsimp only at hS2); first | (go_simp; done) | (go_simp; with_reducible rfl))
      try simp only [Act.put, List.setIfInBounds_toArray, List.set_cons_zero, List.set_cons_succ]
      refine wpAnyH_take (i := 8) (oi := ?o8) (v := ?v8) ?hi8 (by kernel_rfl) (by kernel_rfl) (by kernel_rfl) (fun c a2 w2 h2 => HP c _ _ w2 h2) (Or.inl ⟨?hw8, ?hy8⟩) hHeld ?hr8
      case hi8 => (simp only [List.getElem?_toArray, List.getElem?_cons_succ, List.getElem?_cons_zero]; exact rfl)
      case hw8 => rfl
      case hy8 => (intro w2 hS2; (try dsimp only at hS2); first | (go_simp; done) | (go_simp; with_reducible rfl))
      try simp only [Act.put, List.setIfInBounds_toArray, List.set_cons_zero, List.set_cons_succ]
      refine wpAnyH_take (i := 9) (oi := ?o9) (v := ?v9) ?hi9 (by kernel_rfl) (by kernel_rfl) (by kernel_rfl) (fun c a2 w2 h2 => HP c _ _ w2 h2) (Or.inl ⟨?hw9, ?hy9⟩) hHeld ?hr9
      case hi9 => (simp only [List.getElem?_toArray, List.getElem?_cons_succ, List.getElem?_cons_zero]; exact rfl)
      case hw9 => rfl
      case hy9 => (intro w2 hS2; (try dsimp only at hS2); first | (go_simp; done) | (go_simp; with_reducible rfl))
      try simp only [Act.put, List.setIfInBounds_toArray, List.set_cons_zero, List.set_cons_succ]
      refine wpAnyH_take (i := 10) (oi := ?o10) (v := ?v10) ?hi10 (by kernel_rfl) (by kernel_rfl) (by kernel_rfl) (fun c a2 w2 h2 => HP c _ _ w2 h2) (Or.inl ⟨?hw10, ?hy10⟩) hHeld ?hr10
      case hi10 => (simp only [List.getElem?_toArray, List.getElem?_cons_succ, List.getElem?_cons_zero]; exact rfl)
      case hw10 => rfl
      case hy10 => (intro w2 hS2; (try dsimp only at hS2); first | (go_simp; done) | (go_simp; with_reducible rfl))
      try simp only [Act.put, List.setIfInBounds_toArray, List.set_cons_zero, List.set_cons_succ]
      refine wpAnyH_take (i := 11) (oi := ?o11) (v := ?v11) ?hi11 (by kernel_rfl) (by kernel_rfl) (by kernel_rfl) (fun c a2 w2 h2 => HP c _ _ w2 h2) (Or.inl ⟨?hw11, ?hy11⟩) hHeld ?hr11
      case hi11 => (simp only [List.getElem?_toArray, List.getElem?_cons_succ, List.getElem?_cons_zero]; exact rfl)
      case hw11 => rfl
      case hy11 => (intro w2 hS2; (try dsimp only at hS2); first | (go_simp; done) | (go_simp; with_reducible rfl))
      try simp only [Act.put, List.setIfInBounds_toArray, List.set_cons_zero, List.set_cons_succ]
      refine wpAnyH_take (i := 12) (oi := ?o12) (v := ?v12) ?hi12 (by kernel_rfl) (by kernel_rfl) (by kernel_rfl) (fun c a2 w2 h2 => HP c _ _ w2 h2) (Or.inl ⟨?hw12, ?hy12⟩) hHeld ?hr12
      case hi12 => (simp only [List.getElem?_toArray, List.getElem?_cons_succ, List.getElem?_cons_zero]; exact rfl)
      case hw12 => rfl
      case hy12 => (intro w2 hS2; (try dsimp only at hS2); first | (go_simp; done) | (go_simp; with_reducible rfl))
      try simp only [Act.put, List.setIfInBounds_toArray, List.set_cons_zero, List.set_cons_succ]
      refine wpAnyH_take (i := 13) (oi := ?o13) (v := ?v13) ?hi13 (by kernel_rfl) (by kernel_rfl) (by kernel_rfl) (fun c a2 w2 h2 => HP c _ _ w2 h2) (Or.inl ⟨?hw13, ?hy13⟩) hHeld ?hr13
      case hi13 => (simp only [List.getElem?_toArray, List.getElem?_cons_succ, List.getElem?_cons_zero]; exact rfl)
      case hw13 => rfl
      case hy13 => (intro w2 hS2; (try dsimp only at hS2); first | (go_simp; done) | (go_simp; with_reducible rfl))
      try simp only [Act.put, List.setIfInBounds_toArray, List.set_cons_zero, List.set_cons_succ]
      refine wpAnyH_take (i := 14) (oi := ?o14) (v := ?v14) ?hi14 (by kernel_rfl) (by kernel_rfl) (by kernel_rfl) (fun c a2 w2 h2 => HP c _ _ w2 h2) (Or.inl ⟨?hw14, ?hy14⟩) hHeld ?hr14
      case hi14 => (simp only [List.getElem?_toArray, List.getElem?_cons_succ, List.getElem?_cons_zero]; exact rfl)
      case hw14 => rfl
      case hy14 => (intro w2 hS2; (try dsimp only at hS2); first | (go_simp; done) | (go_simp; with_reducible rfl))
      try simp only [Act.put, List.setIfInBounds_toArray, List.set_cons_zero, List.set_cons_succ]
      refine wpAnyH_take (i := 15) (oi := ?o15) (v := ?v15) ?hi15 (by kernel_rfl) (by kernel_rfl) (by kernel_rfl) (fun c a2 w2 h2 => HP c _ _ w2 h2) (Or.inl ⟨?hw15, ?hy15⟩) hHeld ?hr15
      case hi15 => (simp only [List.getElem?_toArray, List.getElem?_cons_succ, List.getElem?_cons_zero]; exact rfl)
      case hw15 => rfl
      case hy15 => (intro w2 hS2; (try dsimp only at hS2); first | (go_simp; done) | (go_simp; with_reducible rfl))
      try simp only [Act.put, List.setIfInBounds_toArray, List.set_cons_zero, List.set_cons_succ]
      refine wpAnyH_take (i := 16) (oi := ?o16) (v := ?v16) ?hi16 (by kernel_rfl) (by kernel_rfl) (by kernel_rfl) (fun c a2 w2 h2 => HP c _ _ w2 h2) (Or.inl ⟨?hw16, ?hy16⟩) hHeld ?hr16
      case hi16 => (simp only [List.getElem?_toArray, List.getElem?_cons_succ, List.getElem?_cons_zero]; exact rfl)
      case hw16 => rfl
      case hy16 => (intro w2 hS2; (try dsimp only at hS2); first | (go_simp; done) | (go_simp; with_reducible rfl))
      try simp only [Act.put, List.setIfInBounds_toArray, List.set_cons_zero, List.set_cons_succ]
      refine wpAnyH_take (i := 17) (oi := ?o17) (v := ?v17) ?hi17 (by kernel_rfl) (by kernel_rfl) (by kernel_rfl) (fun c a2 w2 h2 => HP c _ _ w2 h2) (Or.inl ⟨?hw17, ?hy17⟩) hHeld ?hr17
      case hi17 => (simp only [List.getElem?_toArray, List.getElem?_cons_succ, List.getElem?_cons_zero]; exact rfl)
      case hw17 => rfl
      case hy17 => (intro w2 hS2; (try dsimp only at hS2); first | (go_simp; done) | (go_simp; with_reducible rfl))
      try simp only [Act.put, List.setIfInBounds_toArray, List.set_cons_zero, List.set_cons_succ]
      refine wpAnyH_take (i := 18) (oi := ?o18) (v := ?v18) ?hi18 (by kernel_rfl) (by kernel_rfl) (by kernel_rfl) (fun c a2 w2 h2 => HP c _ _ w2 h2) (Or.inl ⟨?hw18, ?hy18⟩) hHeld ?hr18
      case hi18 => (simp only [List.getElem?_toArray, List.getElem?_cons_succ, List.getElem?_cons_zero]; exact rfl)
      case hw18 => rfl
      case hy18 => (intro w2 hS2; (try dsimp only at hS2); first | (go_simp; done) | (go_simp; with_reducible rfl))
      try simp only [Act.put, List.setIfInBounds_toArray, List.set_cons_zero, List.set_cons_succ]
      refine wpAnyH_take (i := 19) (oi := ?o19) (v := ?v19) ?hi19 (by kernel_rfl) (by kernel_rfl) (by kernel_rfl) (fun c a2 w2 h2 => HP c _ _ w2 h2) (Or.inl ⟨?hw19, ?hy19⟩) hHeld ?hr19
      case hi19 => (simp only [List.getElem?_toArray, List.getElem?_cons_succ, List.getElem?_cons_zero]; exact rfl)
      case hw19 => rfl
      case hy19 => (intro w2 hS2; (try dsimp only at hS2); first | (go_simp; done) | (go_simp; with_reducible rfl))
      try simp only [Act.put, List.setIfInBounds_toArray, List.set_cons_zero, List.set_cons_succ]
      refine wpAnyH_take (i := 20) (oi := ?o20) (v := ?v20) ?hi20 (by kernel_rfl) (by kernel_rfl) (by kernel_rfl) (fun c a2 w2 h2 => HP c _ _ w2 h2) (Or.inl ⟨?hw20, ?hy20⟩) hHeld ?hr20
      case hi20 => (simp only [List.getElem?_toArray, List.getElem?_cons_succ, List.getElem?_cons_zero]; exact rfl)
      case hw20 => rfl
      case hy20 => (intro w2 hS2; (try dsimp only at hS2); first | (go_simp; done) | (go_simp; with_reducible rfl))
      try simp only [Act.put, List.setIfInBounds_toArray, List.set_cons_zero, List.set_cons_succ]
      refine wpAnyH_take (i := 21) (oi := ?o21) (v := ?v21) ?hi21 (by kernel_rfl) (by kernel_rfl) (by kernel_rfl) (fun c a2 w2 h2 => HP c _ _ w2 h2) (Or.inl ⟨?hw21, ?hy21⟩) hHeld ?hr21
      case hi21 => (simp only [List.getElem?_toArray, List.getElem?_cons_succ, List.getElem?_cons_zero]; exact rfl)
      case hw21 => rfl
      case hy21 => (intro w2 hS2; (try dsimp only at hS2); first | (go_simp; done) | (go_simp; with_reducible rfl))
      try simp only [Act.put, List.setIfInBounds_toArray, List.set_cons_zero, List.set_cons_succ]
      refine wpAnyH_take (i := 22) (oi := ?o22) (v := ?v22) ?hi22 (by kernel_rfl) (by kernel_rfl) (by kernel_rfl) (fun c a2 w2 h2 => HP c _ _ w2 h2) (Or.inl ⟨?hw22, ?hy22⟩) hHeld ?hr22
      case hi22 => (simp only [List.getElem?_toArray, List.getElem?_cons_succ, List.getElem?_cons_zero]; exact rfl)
      case hw22 => rfl
      case hy22 => (intro w2 hS2; (try dsimp only at hS2); first | (go_simp; done) | (go_simp; with_reducible rfl))
      try simp only [Act.put, List.setIfInBounds_toArray, List.set_cons_zero, List.set_cons_succ]
      refine wpAnyH_take (i := 23) (oi := ?o23) (v := ?v23) ?hi23 (by kernel_rfl) (by kernel_rfl) (by kernel_rfl) (fun c a2 w2 h2 => HP c _ _ w2 h2) (Or.inl ⟨?hw23, ?hy23⟩) hHeld ?hr23
      case hi23 => (simp only [List.getElem?_toArray, List.getElem?_cons_succ, List.getElem?_cons_zero]; exact rfl)
      case hw23 => rfl
      case hy23 => (intro w2 hS2; (try dsimp only at hS2); first | (go_simp; done) | (go_simp; with_reducible rfl))
      try simp only [Act.put, List.setIfInBounds_toArray, List.set_cons_zero, List.set_cons_succ]
      refine wpAnyH_take (i := 24) (oi := ?o24) (v := ?v24) ?hi24 (by kernel_rfl) (by kernel_rfl) (by kernel_rfl) (fun c a2 w2 h2 => HP c _ _ w2 h2) (Or.inl ⟨?hw24, ?hy24⟩) hHeld ?hr24
      case hi24 => (simp only [List.getElem?_toArray, List.getElem?_cons_succ, List.getElem?_cons_zero]; exact rfl)
      case hw24 => rfl
      case hy24 => (intro w2 hS2; (try dsimp only at hS2); first | (go_simp; done) | (go_simp; with_reducible rfl))
      try simp only [Act.put, List.setIfInBounds_toArray, List.set_cons_zero, List.set_cons_succ]
      refine wpAnyH_take (i := 25) (oi := ?o25) (v := ?v25) ?hi25 (by kernel_rfl) (by kernel_rfl) (by kernel_rfl) (fun c a2 w2 h2 => HP c _ _ w2 h2) (Or.inl ⟨?hw25, ?hy25⟩) hHeld ?hr25
      case hi25 => (simp only [List.getElem?_toArray, List.getElem?_cons_succ, List.getElem?_cons_zero]; exact rfl)
      case hw25 => rfl
      case hy25 => (intro w2 hS2; (try dsimp only at hS2); first | (go_simp; done) | (go_simp; with_reducible rfl))
      try simp only [Act.put, List.setIfInBounds_toArray, List.set_cons_zero, List.set_cons_succ]
      refine wpAnyH_take (i := 26) (oi := ?o26) (v := ?v26) ?hi26 (by kernel_rfl) (by kernel_rfl) (by kernel_rfl) (fun c a2 w2 h2 => HP c _ _ w2 h2) (Or.inl ⟨?hw26, ?hy26⟩) hHeld ?hr26
      case hi26 => (simp only [List.getElem?_toArray, List.getElem?_cons_succ, List.getElem?_cons_zero]; exact rfl)
      case hw26 => rfl
      case hy26 => (intro w2 hS2; (try dsimp only at hS2); first | (go_simp; done) | (go_simp; with_reducible rfl))
      try simp only [Act.put, List.setIfInBounds_toArray, List.set_cons_zero, List.set_cons_succ]
      refine wpAnyH_take (i := 27) (oi := ?o27) (v := ?v27) ?hi27 (by kernel_rfl) (by kernel_rfl) (by kernel_rfl) (fun c a2 w2 h2 => HP c _ _ w2 h2) (Or.inl ⟨?hw27, ?hy27⟩) hHeld ?hr27
      case hi27 => (simp only [List.getElem?_toArray, List.getElem?_cons_succ, List.getElem?_cons_zero]; exact rfl)
      case hw27 => rfl
      case hy27 => (intro w2 hS2; (try dsimp only at hS2); first | (go_simp; done) | (go_simp; with_reducible rfl))
      try simp only [Act.put, List.setIfInBounds_toArray, List.set_cons_zero, List.set_cons_succ]
      refine wpAnyH_take (i := 28) (oi := ?o28) (v := ?v28) ?hi28 (by kernel_rfl) (by kernel_rfl) (by kernel_rfl) (fun c a2 w2 h2 => HP c _ _ w2 h2) (Or.inl ⟨?hw28, ?hy28⟩) hHeld ?hr28
      case hi28 => (simp only [List.getElem?_toArray, List.getElem?_cons_succ, List.getElem?_cons_zero]; exact rfl)
      case hw28 => rfl
      case hy28 => (intro w2 hS2; (try dsimp only at hS2); first | (go_simp; done) | (go_simp; with_reducible rfl))
      try simp only [Act.put, List.setIfInBounds_toArray, List.set_cons_zero, List.set_cons_succ]
      refine wpAnyH_take (i := 29) (oi := ?o29) (v := ?v29) ?hi29 (by kernel_rfl) (by kernel_rfl) (by kernel_rfl) (fun c a2 w2 h2 => HP c _ _ w2 h2) (Or.inl ⟨?hw29, ?hy29⟩) hHeld ?hr29
      case hi29 => (simp only [List.getElem?_toArray, List.getElem?_cons_succ, List.getElem?_cons_zero]; exact rfl)
      case hw29 => rfl
      case hy29 => (intro w2 hS2; (try dsimp only at hS2); first | (go_simp; done) | (go_simp; with_reducible rfl))
      try simp only [Act.put, List.setIfInBounds_toArray, List.set_cons_zero, List.set_cons_succ]
      refine wpAnyH_take (i := 30) (oi := ?o30) (v := ?v30) ?hi30 (by kernel_rfl) (by kernel_rfl) (by kernel_rfl) (fun c a2 w2 h2 => HP c _ _ w2 h2) (Or.inl ⟨?hw30, ?hy30⟩) hHeld ?hr30
      case hi30 => (simp only [List.getElem?_toArray, List.getElem?_cons_succ, List.getElem?_cons_zero]; exact rfl)
      case hw30 => rfl
      case hy30 => (intro w2 hS2; (try dsimp only at hS2); first | (go_simp; done) | (go_simp; with_reducible rfl))
      try simp only [Act.put, List.setIfInBounds_toArray, List.set_cons_zero, List.set_cons_succ]
      refine wpAnyH_ready (rs := [31]) (by kernel_rfl) (by simp) ?_
      refine AllReadyH.cons (o := ?o31) ?hi31 (fun K hK => ?hr31) AllReadyH.nil
      case hi31 => (simp only [List.getElem?_toArray, List.getElem?_cons_succ, List.getElem?_cons_zero]; exact rfl)
      go_simp
      refine hK.out _ _ ?_ (fun hHeld2 => ?_)
      · try dsimp only
        go_keep
      clear hK K hHeld
      try simp only [List.setIfInBounds_toArray, List.set_cons_zero, List.set_cons_succ]
      refine wpAnyH_ready (rs := [32]) (by kernel_rfl) (by simp) ?_
      refine AllReadyH.cons (o := ?o32) ?hi32 (fun K hK => ?hr32) AllReadyH.nil
      case hi32 => (simp only [List.getElem?_toArray, List.getElem?_cons_succ, List.getElem?_cons_zero]; exact rfl)
      refine step_apB (B := w.heap.size) 37 22 _ 3 56 (by rfl) _ _ (by rfl) Try.underlying22 info_set rfl (by decide) (.slice AS k cS) k (is_.flatMap Itm.rs) [Value.slice (some ⟨gk, 0, none⟩) xk.length (xk.length + 2), .slice (some ⟨gv, 0, none⟩) xv.length (xv.length + 2), .bool xg] W.heap.size 1 (by rfl) (by rfl) LBA.out.s XA.out rfl (by simp [Value.oneCell']) LBA.out.b.size (by unfold maxLen; have := HM.out; omega) (by have := HM.out; omega) ?_
      intro A13 c13 w13 o13 k13 n13
      have PS := Lib.hid (LBA.out.pushS o13 k13)
      have HS13 := Lib.hid (k13.blk LBA.out.box LBA.out.gS)
      have W13 := Lib.hid (below_only LBA.out.b k13 (fun i hi => rows_base LBA.out.s hi))
      have g3 := (blk_cell HS13.out 0).trans (b := some (Value.slice AS k cS)) rfl
      have z3 := blk_free HS13.out 0
      have f0 := (W13.out.cell (p := ⟨bk, _, none⟩) HBK.out).trans C0.out
      have f1 := (W13.out.cell (p := ⟨bk, _, none⟩) HBK.out).trans C1.out
      have f2 := (W13.out.cell (p := ⟨bk, _, none⟩) HBK.out).trans C2.out
      clear o13 k13 n13
      refine hK.out _ _ ⟨f0, f1, f2, g3⟩ (fun hHeld3 => ?_)
      clear hK K hHeld2
      try simp only [Act.put, List.setIfInBounds_toArray, List.set_cons_zero, List.set_cons_succ]
      refine wpAnyH_take (i := 33) (oi := ?o33) (v := ?v33) ?hi33 (by kernel_rfl) (by kernel_rfl) (by kernel_rfl) (fun c a2 w2 h2 => HP c _ _ w2 h2) (Or.inl ⟨?hw33, ?hy33⟩) hHeld3 ?hr33
      case hi33 => (simp only [List.getElem?_toArray, List.getElem?_cons_succ, List.getElem?_cons_zero]; exact rfl)
      case hw33 => rfl
      case hy33 => (intro w2 hS2; (try dsimp only at hS2); first | (go_simp; done) | (go_simp; with_reducible rfl))
      try simp only [Act.put, List.setIfInBounds_toArray, List.set_cons_zero, List.set_cons_succ]
      refine wpAnyH_take (i := 34) (oi := ?o34) (v := ?v34) ?hi34 (by kernel_rfl) (by kernel_rfl) (by kernel_rfl) (fun c a2 w2 h2 => HP c _ _ w2 h2) (Or.inl ⟨?hw34, ?hy34⟩) hHeld3 ?hr34
      case hi34 => (simp only [List.getElem?_toArray, List.getElem?_cons_succ, List.getElem?_cons_zero]; exact rfl)
      case hw34 => rfl
      case hy34 => (intro w2 hS2; (try dsimp only at hS2); first | (go_simp; done) | (go_simp; with_reducible rfl))
      try simp only [Act.put, List.setIfInBounds_toArray, List.set_cons_zero, List.set_cons_succ]
      refine wpAnyH_done (by kernel_rfl) ?_ _
      refine HQ.out _ _ ?_
      refine wpOp_step (i := 35) (o := ?o35) ?hi35 (fun K hK => ?hr35)
      case hi35 => (simp only [List.getElem?_toArray, List.getElem?_cons_succ, List.getElem?_cons_zero]; exact rfl)
      have HK := Lib.hid hK
      clear hK HQ HP hHeld3
      go_simp
      refine HK.out _ _ ?_
      clear HK K
      all_goals
        have FI : Hid (∃ S K V is_, LnB w (w13.setCell ⟨w.heap.size, 0, none⟩ (.slice A13 (k + 1) c13)) w.heap.size S K V (k + 1) (k + 1) (k + 1) (is_.flatMap Itm.rs) (is_.map Itm.rk) (is_.map Itm.rv) ∧ Lnt (w13.setCell ⟨w.heap.size, 0, none⟩ (.slice A13 (k + 1) c13)) w.heap.size is_ ∧ is_.map Itm.s = l.take (k + 1)) := by
          refine ⟨.slice A13 (k + 1) c13, .slice A9 (k + 1) c9, .slice A11 (k + 1) c11, is_ ++ [t], ?_, ITA.out.far PS.out.2 LBA.out.far, ?_⟩
          · rw [List.flatMap_append, List.map_append, List.map_append, List.flatMap_cons, List.flatMap_nil, List.append_nil, List.map_cons, List.map_nil, List.map_cons, List.map_nil, ERS.out, ERK.out, ERV.out]
            exact PS.out.1
          · rw [List.map_append, HE.out, HT.out, List.map_cons, List.map_nil, ES.out]
        clear PS ITA LBA f0 f1 f2 g3 z3 HS13 W13 q0 q1 q2 e0 e1 e2 hcK1 hcK2 hcV1 hcV2
        go_wp2_with fail
        go_roundg (n - (k + 1))
        case measure => omega
        case rel => exact ⟨k + 1, by omega, rfl, by go_num, FI⟩
    · obtain rfl : k = n := by omega
      have i1 : ¬ (k : Int) < (k : Int) := by omega
      have HT : Hid (l.take k = l) := Lib.hid (List.take_of_length_le (by rw [HN.out]; omega))
      have HLN : Hid (is_.length = k) := Lib.hid (by have := congrArg List.length HE.out; rw [List.length_map, HT.out, HN.out] at this; exact this)
      have y2 := LB.out.cS
      have hb8 := below_alloc (Below.refl wr.heap.size wr) (.cells #[.slice none 0 0, .slice none 0 0, .bool true] 37)
      have LB8 := hkeep hb8 LB
      have IT8 := hkeep hb8 LI
      have X8 := Lib.hid (blk_new wr (.cells #[.slice none 0 0, .slice none 0 0, .bool true] 37))
      clear hb8
      go_wp2_with (at_builtin; refine apB (B := w.heap.size) 37 22 _ 3 56 rfl (.tmp 90) (.tmp 92) rfl Try.underlying22 info_set rfl (by decide) (.slice AS k cS) k (is_.flatMap Itm.rs) lastS wr.heap.size 1 rfl rfl LB8.out.s X8.out rfl (by simp [Value.oneCell', lastS]) LB8.out.b.size (by unfold maxLen; have := HM.out; omega) (by have := HM.out; omega) ?_; intro A9 c9 w9 o9 k9 n9; have PK := Lib.hid (LB8.out.pushS o9 k9); have HK9 := Lib.hid (k9.blk LB8.out.box LB8.out.gS); have f1 := (blk_cell HK9.out 0).trans (b := some (Value.slice AS k cS)) rfl; have z1 := blk_free HK9.out 0; clear o9 k9 n9)
      go_ret
      refine ⟨w.heap.size, .slice A9 (k + 1) c9, .slice AK k cK, .slice AV k cV, is_, rfl, by rw [HE.out, HT.out], ⟨PK.out.1.box, PK.out.1.hg, ?_, ?_, ?_, IT8.out.far PK.out.2 LB8.out.far, PK.out.1.ne⟩, PK.out.1.b⟩
      · rw [HLN.out]; exact PK.out.1.s
      · rw [HLN.out]; exact PK.out.1.k
      · rw [HLN.out]; exact PK.out.1.v
end Go.Proofs.Ytnhfeoniiadjfaa.Lst
/- The sets lent; held: what is lent is as it was, and is written over. -/
namespace Go.Proofs.Ytnhfeoniiadjfaa.Lst
open Go.RowKit Go.Proofs.Ytnhfeoniiadjfaa.K Go.Proofs.Ytnhfeoniiadjfaa.Help Go.Proofs.Ytnhfeoniiadjfaa.Pfx Go.Proofs.Ytnhfeoniiadjfaa.Peer
set_option linter.unusedVariables false

theorem run_of {g n c : Nat} (hn : n + 1 ≤ c) (z : Int) (hz : z = (n : Int) + 1) (W : World) :
    (Instr.slice 22 (.slice (some ⟨g, 0, none⟩) (n + 1) c) none (some (.int .i64 (n : Int))) (some (.int .i64 z))).run Try.prog W = .ok (.slice (some ⟨g, 0, none⟩) n (n + 1)) W := by
  subst hz
  have hel : Try.prog.elem 22 = 37 := by kernel_rfl
  have hu : Try.prog.underlying 22 = some (.slice (Try.prog.elem 22)) := by rw [hel]; exact Try.underlying22
  have e1 : ((n : Int) + 1).toNat = n + 1 := by omega
  rw [run_slice_any (P := Try.prog) (ht := hu)]
  have hb : (Instr.sliceBounds true (n + 1) c none (some (.int .i64 (n : Int))) (some (.int .i64 ((n : Int) + 1)))).run Try.prog W = .ok (0, n, n + 1) W := by
    have b1 : (Instr.sliceBound (.int .i64 ((n : Int) + 1)) c .slice3Acap).run Try.prog W = .ok (n + 1) W := by rw [run_sliceBound (h0 := by omega) (h1 := by omega), e1]
    have b2 : (Instr.sliceBound (.int .i64 (n : Int)) (n + 1) .slice3B).run Try.prog W = .ok n W := by rw [run_sliceBound (h0 := by omega) (h1 := by omega)]; simp
    simp [Instr.sliceBounds, b1, b2]
  rw [hb, hel]
  have hsz : (sizeOf 37).run Try.prog W = .ok 3 W := by kernel_rfl
  simp only [Result.andThen, hsz, sliced]
  simp [Addr.add]
theorem Lent.srow {w : World} {B g : Nat} {S K V : Value} {l : List Itm} (h : Lent w B g S K V l) (hm : l.length ≤ 2000) : ∃ sb c, S = .slice (some ⟨sb, 0, none⟩) (l.length + 1) c ∧ l.length + 1 ≤ c ∧ c ≤ 9223372036854775807 ∧ (∀ c', l.length ≤ c' → c' ≤ 9223372036854775807 → Lst SetE w (fun _ => False) (some ⟨sb, 0, none⟩) c' (l.map Itm.s)) ∧
    w.cell? ⟨sb, l.length * 3, none⟩ = some (.slice none 0 0) ∧ w.cell? ⟨sb, l.length * 3 + 2, none⟩ = some (.bool true) ∧ S.ownBlock = some sb := by
  obtain ⟨A, c, rfl, hc, hc2, hl⟩ := h.it.lst lastS (l.length + 1) (by omega) h.s (by omega)
  have hs := h.s
  have hcell := fun (g : Nat) (hg : (Value.slice A (l.length + 1) c).ownBlock = some g) => hs.cells hg
  rcases hs.2 with ⟨h1, _⟩ | ⟨sb, cap, cur, h1, _⟩
  · injection h1 with _ h1; omega
  · injection h1 with h1 _ h2
    subst h1 h2
    have e : ∀ j, j < 3 → w.cell? ⟨sb, l.length * 3 + j, none⟩ = lastS[j]? := fun j hj => by
      have hf : (l.flatMap Itm.rs ++ lastS)[l.length * 3 + j]? = lastS[j]? := by
        rw [List.getElem?_append_right (by rw [rs_flat]; omega), rs_flat, Nat.add_sub_cancel_left]
      have hj2 : j < lastS.length := hj
      have := hcell sb rfl (l.length * 3 + j) (lastS[j]) (by rw [hf]; exact List.getElem?_eq_getElem _)
      rw [addr_add_plain] at this
      rw [this, List.getElem?_eq_getElem hj2]
    exact ⟨sb, c, rfl, hc, hc2, hl, e 0 (by omega), e 2 (by omega), rfl⟩
set_option maxRecDepth 100000 in
theorem of_any (B g : Nat) (S K V : Value) (l : List Itm) (w : World) (h : Lent w B g S K V l) (hm : l.length ≤ 2000) :
    Calls Try.prog 13 #[.pointer (some ⟨g, 0, none⟩)] w (fun e w' => ∃ A, e = .returned (.slice A l.length (l.length + 1)) ∧ Lst SetE w (fun _ => False) A (l.length + 1) (l.map Itm.s) ∧ w = w') := by
  obtain ⟨sb, c, rfl, hc, hc2, hl, -, -, -⟩ := h.srow hm
  have c0 := (blk_cell h.box 0).trans (b := some (Value.slice (some ⟨sb, 0, none⟩) (l.length + 1) c)) rfl
  have HL := Lib.hid (hl (l.length + 1) (by omega) (by omega))
  clear h hl
  generalize l.length = n at *
  have r1 := fun W => run_of (g := sb) hc _ rfl W
  have r2 := fun W => run_of (g := sb) hc ((n + 1 : Nat) : Int) (by push_cast; rfl) W
  have w1 : IntKind.i64.wrap ((n : Int) + 1) = (n : Int) + 1 := IntWalk.i64_in _ (by omega)
  go_enter Try.func13, Try.ntmps13
  go_wp2_with fail
  go_ret
  exact ⟨_, rfl, HL.out, rfl⟩
/-- the blocks that held writes over -/
def lentB (S : Value) (l : List Itm) (i : Nat) : Prop := S.ownBlock = some i ∨ ∃ t, t ∈ l ∧ (i = t.gk ∨ i = t.gv)
theorem lentB_base {w : World} {B g : Nat} {S K V : Value} {l : List Itm} (h : Lent w B g S K V l) {i : Nat} (hi : lentB S l i) : B ≤ i ∧ i < w.heap.size := by
  rcases hi with hi | ⟨t, ht, rfl | rfl⟩
  · exact ⟨rows_base h.s hi, rows_lt h.s hi⟩
  · obtain ⟨h1, h2, h3, h4, _⟩ := h.it.ok t ht
    exact ⟨h1, h3.lt⟩
  · obtain ⟨h1, h2, h3, h4, _⟩ := h.it.ok t ht
    exact ⟨by omega, h4.lt⟩
theorem markB_self (l : List UInt8) (x y : UInt8) : markB (l ++ [x, y]) l x y = true := by
  unfold markB
  have h1 : (l ++ [x, y]).take l.length = l := List.take_left' rfl
  have h2 : (l ++ [x, y]).getD l.length 0 = x := by simp
  have h3 : (l ++ [x, y]).getD (l.length + 1) 0 = y := by
    have := getD_app l [x, y] 1
    rw [this]; rfl
  rw [h1, h2, h3]
  simp
/-- what held leaves of the lent while it goes: the rows' block, the items from k on -/
structure HSt (w wr : World) (B g : Nat) (S K V : Value) (l : List Itm) (k : Nat) : Prop where
  box : wr.heap[g]? = some (.cells #[S, K, V] 41 (0, 0))
  s : ∃ xs, wr.ownsRow B 37 3 S (l.length + 1) xs
  rk : wr.ownsRow B 27 1 K l.length (l.map Itm.rk)
  rv : wr.ownsRow B 27 1 V l.length (l.map Itm.rv)
  it : ∀ (i : Nat) (t : Itm), k ≤ i → l[i]? = some t → Byt wr t.gk (t.s.1 ++ [161, 162]) ∧ Byt wr t.gv (t.s.2.1 ++ [163, 164])
  o : Only w wr (lentB S l)
section
variable {w wr w' : World} {B g k : Nat} {S K V : Value} {l : List Itm}
theorem Lent.hst (h : Lent w B g S K V l) : HSt w w B g S K V l 0 := ⟨h.box, ⟨_, h.s⟩, h.k, h.v, fun i t _ ht => ⟨(h.it.at_ i t ht).2.2.1, (h.it.at_ i t ht).2.2.2.1⟩, Only.refl _ _⟩
theorem HSt.keep (h : HSt w wr B g S K V l k) (hb : Below wr.heap.size wr w') : HSt w w' B g S K V l k :=
  ⟨(hb.block _ (blk_lt h.box)).trans h.box, by obtain ⟨xs, hx⟩ := h.s; exact ⟨xs, rows_below hx hb⟩, rows_below h.rk hb, rows_below h.rv hb, fun i t hi ht => ⟨(h.it i t hi ht).1.keep hb, (h.it i t hi ht).2.keep hb⟩, Only.below2 h.o hb⟩
instance stb_hst : Stb wr w' (HSt w wr B g S K V l k) (HSt w w' B g S K V l k) := ⟨fun h hb => h.keep hb⟩
/-- a block of bytes is written over: no row lies there -/
theorem HSt.byt (h : HSt w wr B g S K V l k) (m : Nat) (hm : k ≤ m) {q : Nat} (hq : lentB S l q) (hB : ∃ L, Byt wr q L) (o : Only wr w' (fun i => i = q)) (hd : ∀ (i : Nat) (t : Itm), m ≤ i → l[i]? = some t → t.gk ≠ q ∧ t.gv ≠ q) : HSt w w' B g S K V l m := by
  obtain ⟨L, cs, hc, _⟩ := hB
  have hne : ∀ (t : TypeId) (cs' : Array Value) (fr : Nat × Nat) (i : Nat), wr.heap[i]? = some (.cells cs' t fr) → t ≠ 5 → ¬ i = q := fun t cs' fr i h1 h2 e => by subst e; exact blk_ne h1 hc h2 rfl
  have hrow : ∀ {n sz : Nat} {t : TypeId} {v : Value} {xs : List Value}, wr.ownsRow B t sz v n xs → t ≠ 5 → w'.ownsRow B t sz v n xs := fun h1 h2 => row_keep h1 o (fun i hi => by obtain ⟨cs', h3⟩ := rows_blk h1 hi; exact hne _ _ _ i h3 h2)
  refine ⟨o.blk h.box (hne _ _ _ _ h.box (by decide)), ?_, hrow h.rk (by decide), hrow h.rv (by decide), fun i t hi ht => ?_, h.o.then_ o (fun i hi => .inl (by rw [hi]; exact hq))⟩
  · obtain ⟨xs, hx⟩ := h.s
    exact ⟨xs, hrow hx (by decide)⟩
  · obtain ⟨h1, h2⟩ := h.it i t (by omega) ht
    obtain ⟨n1, n2⟩ := hd i t hi ht
    exact ⟨h1.only o n1, h2.only o n2⟩
end
end Go.Proofs.Ytnhfeoniiadjfaa.Lst
/- The walk of held. -/
namespace Go.Proofs.Ytnhfeoniiadjfaa.Lst
open Go.RowKit Go.Proofs.Ytnhfeoniiadjfaa.K Go.Proofs.Ytnhfeoniiadjfaa.Help Go.Proofs.Ytnhfeoniiadjfaa.Pfx Go.Proofs.Ytnhfeoniiadjfaa.Peer
set_option linter.unusedVariables false

theorem rows_set {w : World} {B n sz sb c : Nat} {t : TypeId} {xs : List Value} (h : w.ownsRow B t sz (.slice (some ⟨sb, 0, none⟩) n c) n xs) (j : Nat) (u : Value) : (w.setCell ⟨sb, j, none⟩ u).ownsRow B t sz (.slice (some ⟨sb, 0, none⟩) n c) n (xs.set j u) := by
  refine ⟨by rw [List.length_set]; exact h.1, ?_⟩
  rcases h.2 with ⟨h1, _⟩ | ⟨g, cap, cur, h1, hb, hh, hn, hm, hs, ht⟩
  · cases h1
  · injection h1 with h1 _ h2
    injection h1 with h1
    injection h1 with h1
    subst h1 h2
    refine .inr ⟨sb, c, _, rfl, hb, blk_set hh j u, hn, hm, by simpa using hs, ?_⟩
    rw [Array.toList_setIfInBounds, List.take_set, ht]
def zrow : Itm := ⟨([], [], false), 0, 0, 0, 0⟩
set_option maxRecDepth 100000 in
set_option maxHeartbeats 4000000 in
theorem held_any (B g : Nat) (S K V : Value) (l : List Itm) (A : Option Addr) (a : Nat) (N : Nat → Prop) (w : World) (h : Lent w B g S K V l) (hm : l.length ≤ 2000) (hl : Lst SetE w N A a (l.map Itm.s)) (hN : ∀ i, lentB S l i → N i) :
    Calls Try.prog 18 #[.pointer (some ⟨g, 0, none⟩), .slice A (l.map Itm.s).length a] w (fun e w' => e = .returned (.bool true) ∧ Only w w' (lentB S l)) := by
  obtain ⟨sb, c, rfl, hc, hc2, hls, hq0, hq2, hsb⟩ := h.srow hm
  have h1 := hl.le
  have h2 := hl.max
  rw [List.length_map] at h1 ⊢
  have SS := Lib.hid (sameSets_self (some ⟨sb, 0, none⟩) A c a (l.map Itm.s) w (hls c (by omega) hc2) hl.free)
  have HSL := Lib.hid (And.intro hq0 (And.intro hq2 trivial))
  have HS0 := Lib.hid h.hst
  have HL := Lib.hid hl
  have HN := Lib.hid hN
  have HOK := Lib.hid (And.intro h.it.ok h.it.ord)
  have HSB := Lib.hid (rows_lt h.s hsb)
  have HKV := Lib.hid h.ne
  have y0 := (blk_cell h.box 0).trans (b := some (Value.slice (some ⟨sb, 0, none⟩) (l.length + 1) c)) rfl
  clear h hls hq0 hq2 hsb hl hN
  rw [List.length_map] at SS
  obtain ⟨n, hn⟩ : ∃ n, n = l.length := ⟨_, rfl⟩
  rw [← hn] at SS h1 hc hm HSL HS0 y0 ⊢
  have HNL := Lib.hid hn
  have j0 : (0 : Int) ≤ (n : Int) := by omega
  have j1 : (n : Int) ≤ (c : Int) := by omega
  have j2 : (n : Int) < ((n + 1 : Nat) : Int) := by omega
  have j3 : (n : Int) < (n : Int) + 1 := by omega
  clear hn
  go_enter Try.func18, Try.ntmps18
  go_wp2_with fail
  (with_reducible refine SS.out.mono ?_)
  rintro e w1 ⟨rfl, hb1⟩
  have HS1 := hkeep hb1 HS0
  have x0 := (blk_cell HS1.out.box 0).trans (b := some (Value.slice (some ⟨sb, 0, none⟩) (n + 1) c)) rfl
  have x1 := (hb1.cell (p := ⟨sb, _, none⟩) HSB.out).trans HSL.out.1
  have x2 := (hb1.cell (p := ⟨sb, _, none⟩) HSB.out).trans HSL.out.2.1
  clear hb1 HS0 SS y0
  go_wp2_with fail
  go_loopg [7, 6] n (fun gk i ok wr => ∃ k : Nat, k ≤ n ∧ gk = n - k ∧ i = .int .i64 (k : Int) ∧ ok = .bool true ∧ Hid (HSt w wr B g (.slice (some ⟨sb, 0, none⟩) (n + 1) c) K V l k))
  case atStart => exact ⟨0, by omega, rfl, rfl, rfl, HS1⟩
  case round =>
    clear x0 x1 x2 HS1
    obtain ⟨k, hk, rfl, rfl, rfl, HK⟩ := hrel
    by_cases hlt : k < n
    · have i1 : (k : Int) < (n : Int) := by omega
      have i2 : (k : Int) < ((n + 1 : Nat) : Int) := by omega
      have i3 : (k : Int) < (n : Int) + 1 := by omega
      have i0 : (0 : Int) ≤ (k : Int) := by omega
      have hkl : k < l.length := by rw [← HNL.out]; exact hlt
      obtain ⟨t, ht⟩ : ∃ t, l[k]? = some t := ⟨_, List.getElem?_eq_getElem hkl⟩
      have hmem : t ∈ l := List.mem_of_getElem? ht
      obtain ⟨t1, t2, t3, t4, t5, t6, t7, t8, t9, t10⟩ := HOK.out.1 t hmem
      obtain ⟨AK, cK, rfl⟩ := row_slice HK.out.rk
      obtain ⟨AV, cV, rfl⟩ := row_slice HK.out.rv
      have hrk := HK.out.rk
      have hrv := HK.out.rv
      obtain ⟨kb, rfl, hkb, hkc, hkcell, -⟩ := row_cell hrk k hkl
      obtain ⟨vb, rfl, hvb, hvc, hvcell, -⟩ := row_cell hrv k hkl
      have gk_ : (l.map Itm.rk).getD k default = .slice (some ⟨t.gk, 0, none⟩) (t.s.1.length + 2) t.ck := by simp [List.getD_eq_getElem?_getD, ht]; rfl
      have gv_ : (l.map Itm.rv).getD k default = .slice (some ⟨t.gv, 0, none⟩) (t.s.2.1.length + 2) t.cv := by simp [List.getD_eq_getElem?_getD, ht]; rfl
      rw [gk_] at hkcell
      rw [gv_] at hvcell
      have hl2 := HL.out.only HK.out.o (fun i _ hi => HN.out i hi)
      obtain ⟨bk, off, A1, a1, B1, b1, rfl, hbk, c0, c1, c2, s1, s2⟩ := hl2.set k t.s (by rw [List.getElem?_map, ht]; rfl)
      have P1 : Hid (∀ W, Byt W t.gk (t.s.1 ++ [161, 162]) → Bs W A1 a1 t.s.1 → Calls Try.prog 52 #[.slice (some ⟨t.gk, 0, none⟩) (t.s.1.length + 2) t.ck, .slice A1 t.s.1.length a1, .int .u8 161, .int .u8 162] W (RetMk W t.gk (t.s.1 ++ [161, 162]) true)) := Lib.hid (fun W q1 q2 => by
        have := marked_any t.gk t.ck (t.s.1 ++ [161, 162]) t.s.1 161 162 A1 a1 W q1 q2 (app2_len _ _ _) (by rw [app2_len]; exact t5) t7
        rw [app2_len, markB_self] at this
        exact this)
      have P2 : Hid (∀ W, Byt W t.gv (t.s.2.1 ++ [163, 164]) → Bs W B1 b1 t.s.2.1 → Calls Try.prog 52 #[.slice (some ⟨t.gv, 0, none⟩) (t.s.2.1.length + 2) t.cv, .slice B1 t.s.2.1.length b1, .int .u8 163, .int .u8 164] W (RetMk W t.gv (t.s.2.1 ++ [163, 164]) true)) := Lib.hid (fun W q1 q2 => by
        have := marked_any t.gv t.cv (t.s.2.1 ++ [163, 164]) t.s.2.1 163 164 B1 b1 W q1 q2 (app2_len _ _ _) (by rw [app2_len]; exact t6) t8
        rw [app2_len, markB_self] at this
        exact this)
      have hlk : lentB (.slice (some ⟨sb, 0, none⟩) (n + 1) c) l t.gk := .inr ⟨t, hmem, .inl rfl⟩
      have hlv : lentB (.slice (some ⟨sb, 0, none⟩) (n + 1) c) l t.gv := .inr ⟨t, hmem, .inr rfl⟩
      have het : l[k] = t := by rw [List.getElem?_eq_getElem hkl] at ht; injection ht
      have hord : ∀ (i : Nat) (t' : Itm), k + 1 ≤ i → l[i]? = some t' → t.gv < t'.gk ∧ t'.gk < t'.gv := fun i t' hi ht' => by
        have hil := (List.getElem?_eq_some_iff.1 ht').1
        have h3 := List.pairwise_iff_getElem.1 HOK.out.2 k i hkl hil (by omega)
        rw [het] at h3
        have e : l[i] = t' := by rw [List.getElem?_eq_getElem hil] at ht'; injection ht'
        rw [e] at h3
        exact ⟨h3, (HOK.out.1 t' (List.mem_of_getElem? ht')).2.1⟩
      obtain ⟨bk2, off2, raw2, eA2, -, hnn, -, -⟩ := hl2.at_ k t.s (by rw [List.getElem?_map, ht]; rfl)
      cases eA2
      obtain ⟨hb0, hb1⟩ := HK.out.it k t (Nat.le_refl _) ht
      have nk : kb ≠ t.gk := fun e => by obtain ⟨cs, h3⟩ := rows_blk hrk (i := kb) rfl; obtain ⟨cs', h4, _⟩ := hb0; exact blk_ne h3 (e ▸ h4) (by decide) rfl
      have nv : vb ≠ t.gk := fun e => by obtain ⟨cs, h3⟩ := rows_blk hrv (i := vb) rfl; obtain ⟨cs', h4, _⟩ := hb0; exact blk_ne h3 (e ▸ h4) (by decide) rfl
      have nv2 : vb ≠ t.gv := fun e => by obtain ⟨cs, h3⟩ := rows_blk hrv (i := vb) rfl; obtain ⟨cs', h4, _⟩ := hb1; exact blk_ne h3 (e ▸ h4) (by decide) rfl
      have ng : g ≠ t.gk := fun e => by obtain ⟨cs', h4, _⟩ := hb0; exact blk_ne HK.out.box (e ▸ h4) (by decide) rfl
      have ng2 : g ≠ t.gv := fun e => by obtain ⟨cs', h4, _⟩ := hb1; exact blk_ne HK.out.box (e ▸ h4) (by decide) rfl
      have nb : bk ≠ t.gk := fun e => hnn (by rw [e]; exact HN.out _ hlk)
      have nb2 : bk ≠ t.gv := fun e => hnn (by rw [e]; exact HN.out _ hlv)
      have nn : t.gk ≠ t.gv := by omega
      have HNE := Lib.hid (And.intro nk (And.intro nv (And.intro nv2 (And.intro ng (And.intro ng2 (And.intro nb (And.intro nb2 nn)))))))
      have T2 := Lib.hid t2
      have HNK : Hid (∀ i, i = t.gk → N i) := Lib.hid (fun i e => by rw [e]; exact HN.out _ hlk)
      have HB0 := Lib.hid (And.intro hb0 hb1)
      have T1 := Lib.hid (P1.out (wr.drewN 1) (hb0.keep (below_drewN (Below.refl _ _) 1)) (s1.1.below (below_drewN (Below.refl _ _) 1)))
      have HKD := hkeep (below_drewN (Below.refl wr.heap.size wr) 1) HK
      have S2 := Lib.hid s2
      have x0 := (blk_cell HK.out.box 1).trans (b := some (Value.slice (some ⟨kb, 0, none⟩) l.length cK)) rfl
      have X2 := Lib.hid ((blk_cell HK.out.box 2).trans (b := some (Value.slice (some ⟨vb, 0, none⟩) l.length cV)) rfl)
      have HORD := Lib.hid hord
      have HLK := Lib.hid (And.intro hlk hlv)
      have C1 := Lib.hid c1
      have VC := Lib.hid hvcell
      have HT := Lib.hid ht
      have k1 : (k : Int) < (l.length : Int) := by omega
      clear t1 t2 t3 t4 t5 t6 t7 t8 t9 t10 hrk hrv hkb hvb gk_ gv_ hl2 s1 s2 hord hlk hlv het hb0 hb1 nk nv nv2 ng ng2 nb nb2 nn hnn c1 hvcell P1 hmem ht hbk c2 hkc hvc
      generalize t.s.1 = key at *
      go_wp2_with fail
      go_region_held3 (fun w' => w'.cell? ⟨g, 1, none⟩ = some (.slice (some ⟨kb, 0, none⟩) l.length cK) ∧ w'.cell? ⟨kb, k, none⟩ = some (.slice (some ⟨t.gk, 0, none⟩) (key.length + 2) t.ck) ∧ w'.cell? ⟨bk, off + k * 3, none⟩ = some (.slice A1 key.length a1)) (first | exact ⟨f0, f1, f2⟩ | go_keep)
        (first | (go_at_call 52
                  refine T1.out.mono ?_
                  rintro e w2 ⟨rfl, by2, k2⟩
                  have HK2 := Lib.hid (HKD.out.byt (k + 1) (by omega) HLK.out.1 ⟨_, HB0.out.1.keep (below_drewN (Below.refl _ _) 1)⟩ k2 (fun i t' hi ht' => by have := HORD.out i t' hi ht'; have := T2.out; omega))
                  have K2 := Lib.hid k2
                  have f0 := Only.cellne k2 x0 HNE.out.2.2.2.1
                  have f1 := Only.cellne k2 hkcell HNE.out.1
                  have f2 := Only.cellne k2 c0 HNE.out.2.2.2.2.2.1
                  clear by2 k2))
      have K2' : Hid (Only wr w2 (fun i => i = t.gk)) := Lib.hid (Only.of_drewN K2.out)
      have T3 := Lib.hid (P2.out (w2.drewN 1) ((HB0.out.2.only K2'.out (Ne.symm HNE.out.2.2.2.2.2.2.2)).keep (below_drewN (Below.refl _ _) 1)) ((BsN.only S2.out K2'.out (fun i _ hi => HNK.out i hi)).1.below (below_drewN (Below.refl _ _) 1)))
      have BV2 := Lib.hid (HB0.out.2.only K2'.out (Ne.symm HNE.out.2.2.2.2.2.2.2))
      have HKE := hkeep (below_drewN (Below.refl w2.heap.size w2) 1) HK2
      have e0 := Only.cellne K2'.out X2.out HNE.out.2.2.2.1
      have e1 := Only.cellne K2'.out VC.out HNE.out.2.1
      have e2 := Only.cellne K2'.out C1.out HNE.out.2.2.2.2.2.1
      clear f0 f1 f2 x0 hkcell c0 T1 HKD K2 K2' HB0 S2 X2 VC C1 P2 HK
      generalize t.s.2.1 = val at *
      go_wp2_with fail
      go_region_held3 (fun w' => w'.cell? ⟨g, 2, none⟩ = some (.slice (some ⟨vb, 0, none⟩) l.length cV) ∧ w'.cell? ⟨vb, k, none⟩ = some (.slice (some ⟨t.gv, 0, none⟩) (val.length + 2) t.cv) ∧ w'.cell? ⟨bk, off + k * 3 + 1, none⟩ = some (.slice B1 val.length b1)) (first | exact ⟨f0, f1, f2⟩ | go_keep)
        (first | (go_at_call 52
                  refine T3.out.mono ?_
                  rintro e w3 ⟨rfl, by3, k3⟩
                  have HK3 := Lib.hid (HKE.out.byt (k + 1) (Nat.le_refl _) HLK.out.2 ⟨_, BV2.out.keep (below_drewN (Below.refl _ _) 1)⟩ k3 (fun i t' hi ht' => by have := HORD.out i t' hi ht'; have := T2.out; omega))
                  have f0 := Only.cellne k3 e0 HNE.out.2.2.2.2.1
                  have f1 := Only.cellne k3 e1 HNE.out.2.2.1
                  have f2 := Only.cellne k3 e2 HNE.out.2.2.2.2.2.2.1
                  clear by3 k3))
      obtain ⟨xs, hxs⟩ := HK3.out.s
      have hcx := fun (j : Nat) (hj : j < xs.length) => hxs.cells (g := sb) rfl j xs[j] (List.getElem?_eq_getElem hj)
      have hxl : xs.length = (n + 1) * 3 := by have := hxs.1; rw [← HNL.out] at this; exact this
      obtain ⟨v0, m0⟩ : ∃ v, w3.cell? ⟨sb, k * 3, none⟩ = some v := ⟨_, by have := hcx (k * 3) (by omega); rw [addr_add_plain] at this; exact this⟩
      obtain ⟨v1, m1⟩ : ∃ v, w3.cell? ⟨sb, k * 3 + 1, none⟩ = some v := ⟨_, by have := hcx (k * 3 + 1) (by omega); rw [addr_add_plain] at this; exact this⟩
      obtain ⟨v2, m2⟩ : ∃ v, w3.cell? ⟨sb, k * 3 + 2, none⟩ = some v := ⟨_, by have := hcx (k * 3 + 2) (by omega); rw [addr_add_plain] at this; exact this⟩
      obtain ⟨cs, hcs⟩ := rows_blk hxs (i := sb) rfl
      have z0 := blk_free hcs (k * 3)
      have z1 := blk_free hcs (k * 3 + 1)
      have z2 := blk_free hcs (k * 3 + 2)
      have y0 := (blk_cell HK3.out.box 0).trans (b := some (Value.slice (some ⟨sb, 0, none⟩) (n + 1) c)) rfl
      have FIN : Hid (HSt w (((w3.setCell ⟨sb, k * 3, none⟩ (.slice none 0 0)).setCell ⟨sb, k * 3 + 1, none⟩ (.slice none 0 0)).setCell ⟨sb, k * 3 + 2, none⟩ (.bool false)) B g (.slice (some ⟨sb, 0, none⟩) (n + 1) c) (.slice (some ⟨kb, 0, none⟩) l.length cK) (.slice (some ⟨vb, 0, none⟩) l.length cV) l (k + 1)) := by
        have ko : Only w3 (((w3.setCell ⟨sb, k * 3, none⟩ (.slice none 0 0)).setCell ⟨sb, k * 3 + 1, none⟩ (.slice none 0 0)).setCell ⟨sb, k * 3 + 2, none⟩ (.bool false)) (fun i => i = sb) :=
          (((Only.refl w3 (fun i => i = sb)).setCell (p := ⟨sb, k * 3, none⟩) (.inl rfl) _).setCell (p := ⟨sb, k * 3 + 1, none⟩) (.inl rfl) _).setCell (p := ⟨sb, k * 3 + 2, none⟩) (.inl rfl) _
        have hx2 : w3.ownsRow B 37 3 (.slice (some ⟨sb, 0, none⟩) (n + 1) c) (n + 1) xs := by rw [HNL.out]; have := hxs; rw [HNL.out] at this; exact this
        refine Lib.hid ⟨ko.blk HK3.out.box (fun e => blk_ne hcs (e ▸ HK3.out.box) (by decide) rfl), ⟨((xs.set (k * 3) (.slice none 0 0)).set (k * 3 + 1) (.slice none 0 0)).set (k * 3 + 2) (.bool false), ?_⟩, row_keep HK3.out.rk ko (fun i hi e => ?_), row_keep HK3.out.rv ko (fun i hi e => ?_), fun i t' hi ht' => ?_, HK3.out.o.then_ ko (fun i hi => .inl (.inl (by rw [hi]; rfl)))⟩
        · rw [← HNL.out]
          exact rows_set (rows_set (rows_set hx2 (k * 3) (.slice none 0 0)) (k * 3 + 1) (.slice none 0 0)) (k * 3 + 2) (.bool false)
        · obtain ⟨cs', h'⟩ := rows_blk HK3.out.rk hi
          exact blk_ne hcs (e ▸ h') (by decide) rfl
        · obtain ⟨cs', h'⟩ := rows_blk HK3.out.rv hi
          exact blk_ne hcs (e ▸ h') (by decide) rfl
        · obtain ⟨q1, q2⟩ := HK3.out.it i t' hi ht'
          exact ⟨q1.only ko (fun e => by obtain ⟨cs', h', _⟩ := q1; exact blk_ne hcs (e ▸ h') (by decide) rfl), q2.only ko (fun e => by obtain ⟨cs', h', _⟩ := q2; exact blk_ne hcs (e ▸ h') (by decide) rfl)⟩
      clear f0 f1 f2 e0 e1 e2 T3 HKE BV2 HK2 HK3 hxs hcx hxl hcs
      go_wp2_with fail
      go_roundg (n - (k + 1))
      case measure => omega
      case rel => exact ⟨k + 1, by omega, rfl, by go_num, rfl, FIN⟩
    · obtain rfl : k = n := by omega
      have i1 : ¬ (k : Int) < (k : Int) := by omega
      go_wp2_with fail
      exact bodyPost_ret (v := .bool true) (by simp [results, Try.results18, go_sem]) rfl ⟨rfl, HK.out.o⟩
end Go.Proofs.Ytnhfeoniiadjfaa.Lst
/- Copies of sets: each key and each value in memory of its own. -/
namespace Go.Proofs.Ytnhfeoniiadjfaa.Lst
open Go.RowKit Go.Proofs.Ytnhfeoniiadjfaa.K Go.Proofs.Ytnhfeoniiadjfaa.Help Go.Proofs.Ytnhfeoniiadjfaa.Pfx Go.Proofs.Ytnhfeoniiadjfaa.Peer
set_option linter.unusedVariables false

structure CItm where
  s : SetD
  kv : Value
  vv : Value
def CItm.rs (t : CItm) : List Value := [t.kv, t.vv, .bool t.s.2.2]
def CItm.own (t : CItm) (i : Nat) : Prop := t.kv.ownBlock = some i ∨ t.vv.ownBlock = some i
def CItm.ok (w : World) (B : Nat) (t : CItm) : Prop := Own w B t.kv t.s.1 ∧ Own w B t.vv t.s.2.1 ∧ ∀ i j, t.kv.ownBlock = some i → t.vv.ownBlock = some j → i < j
structure CLs (w : World) (B : Nat) (l : List CItm) : Prop where
  ok : ∀ t, t ∈ l → t.ok w B
  ord : l.Pairwise (fun a b => ∀ i j, a.own i → b.own j → i < j)
section
variable {w w' : World} {B : Nat} {l : List CItm}
theorem CItm.ok.keep {t : CItm} (h : t.ok w B) (hb : Below w.heap.size w w') : t.ok w' B := ⟨h.1.below hb, h.2.1.below hb, h.2.2⟩
theorem CLs.nil (w : World) (B : Nat) : CLs w B [] := ⟨by simp, List.Pairwise.nil⟩
theorem CLs.keep (h : CLs w B l) (hb : Below w.heap.size w w') : CLs w' B l := ⟨fun t ht => (h.ok t ht).keep hb, h.ord⟩
instance stb_cls : Stb w w' (CLs w B l) (CLs w' B l) := ⟨fun h hb => h.keep hb⟩
theorem CLs.far {T : Nat → Prop} (h : CLs w B l) (k : Only w w' T) (hT : ∀ i, T i → i < w.heap.size → NotU8 w i) : CLs w' B l :=
  ⟨fun t ht => ⟨own_far (h.ok t ht).1 k hT, own_far (h.ok t ht).2.1 k hT, (h.ok t ht).2.2⟩, h.ord⟩
theorem CItm.ok.lt {t : CItm} (h : t.ok w B) {i : Nat} (hi : t.own i) : i < w.heap.size := hi.elim (fun e => own_lt h.1 e) (fun e => own_lt h.2.1 e)
theorem CItm.ok.base {t : CItm} (h : t.ok w B) {i : Nat} (hi : t.own i) : B ≤ i := hi.elim (fun e => h.1.base_le e) (fun e => h.2.1.base_le e)
theorem CLs.push (h : CLs w B l) {t : CItm} (ht : t.ok w' B) (hb : Below w.heap.size w w') (hg : ∀ i, t.own i → w.heap.size ≤ i) : CLs w' B (l ++ [t]) := by
  refine ⟨fun x hx => ?_, ?_⟩
  · rcases List.mem_append.1 hx with h1 | h1
    · exact (h.ok x h1).keep hb
    · simp only [List.mem_cons, List.not_mem_nil, or_false] at h1; subst h1; exact ht
  · rw [List.pairwise_append]
    refine ⟨h.ord, by simp, fun a ha b hb i j hi hj => ?_⟩
    simp only [List.mem_cons, List.not_mem_nil, or_false] at hb
    subst hb
    have := (h.ok a ha).lt hi
    have := hg j hj
    omega
/-- a copy reads as a list that lies in no block of N -/
theorem CLs.ownL (h : CLs w B l) {N : Nat → Prop} {v : Value} (hr : w.ownsRow B 37 3 v l.length (l.flatMap CItm.rs)) (hN : ∀ i, N i → i < B) (hm : l.length ≤ 100000) : OwnL SetE 37 w N B v (l.map CItm.s) := by
  refine ⟨l.map CItm.rs, by simp, by rw [List.length_map, ← List.flatMap_def]; exact hr, by rw [List.length_map]; omega, fun i x raw hx hw => ?_⟩
  rw [List.getElem?_map] at hx hw
  obtain ⟨t, ht, rfl⟩ := Option.map_eq_some_iff.1 hx
  rw [ht] at hw
  injection hw with hw
  subst hw
  obtain ⟨h1, h2, h3⟩ := h.ok t (List.mem_of_getElem? ht)
  have hn : ∀ {u : Value} {x : List UInt8}, Own w B u x → ∃ A c, u = .slice A x.length c ∧ BsN w (fun k => N k ∨ v.ownBlock = some k) A c x := fun {u x} ho => by
    obtain ⟨A, c, rfl, hb⟩ := ho.bs
    refine ⟨A, c, rfl, hb, fun hx0 ad e hni => ?_⟩
    subst e
    have hob : (Value.slice (some ad) x.length c).ownBlock = some ad.block := rfl
    rcases hni with hni | hni
    · have := hN _ hni; have := ho.base_le hob; omega
    · obtain ⟨cs, hc⟩ := rows_blk hr hni
      obtain ⟨cs', hc'⟩ := rows_blk ho.1 hob
      exact blk_ne hc hc' (by decide) rfl
  obtain ⟨A, a, e1, b1⟩ := hn h1
  obtain ⟨C, c, e2, b2⟩ := hn h2
  exact ⟨A, a, C, c, by unfold CItm.rs; rw [e1, e2], b1, b2⟩
/-- the value of item j is turned -/
def CItm.turn (t : CItm) (v : List UInt8) : CItm := { t with s := (t.s.1, v, t.s.2.2) }
theorem CLs.turn (h : CLs w B l) (i : Nat) (t : CItm) (ht : l[i]? = some t) (v : List UInt8) {q : Nat} (hq : t.vv.ownBlock = some q) (k : Only w w' (fun j => j = q)) (hB : Own w' B t.vv v) : CLs w' B (l.set i (t.turn v)) := by
  have hi := (List.getElem?_eq_some_iff.1 ht).1
  have et : l[i] = t := by rw [List.getElem?_eq_getElem hi] at ht; injection ht
  have ht0 := h.ok t (List.mem_of_getElem? ht)
  refine ⟨fun x hx => ?_, ?_⟩
  · obtain ⟨j, hj, rfl⟩ := List.mem_iff_getElem.1 hx
    rw [List.length_set] at hj
    rw [List.getElem_set]
    split
    · exact ⟨ht0.1.only k (fun i hi e => by have := ht0.2.2 i q hi hq; omega), hB, ht0.2.2⟩
    · rename_i hne
      have hj0 := h.ok l[j] (List.getElem_mem hj)
      have hd : ∀ a, l[j].own a → a ≠ q := fun a ha => by
        rcases Nat.lt_or_ge i j with hij | hij
        · have := List.pairwise_iff_getElem.1 h.ord i j hi hj hij
          rw [et] at this
          have := this q a (.inr hq) ha
          omega
        · have := List.pairwise_iff_getElem.1 h.ord j i hj hi (by omega)
          rw [et] at this
          have := this a q ha (.inr hq)
          omega
      exact ⟨hj0.1.only k (fun a ha e => hd a (.inl ha) e), hj0.2.1.only k (fun a ha e => hd a (.inr ha) e), hj0.2.2⟩
  · rw [List.pairwise_iff_getElem]
    intro a b ha hb hab
    rw [List.length_set] at ha hb
    have := List.pairwise_iff_getElem.1 h.ord a b ha hb hab
    rw [List.getElem_set, List.getElem_set]
    have e1 : ∀ (c : Nat) (hc : c < l.length) (q : Nat), (if i = c then t.turn v else l[c]).own q → l[c].own q := fun c hc q hq => by
      split at hq
      · rename_i e; subst e; rw [et]; exact hq
      · exact hq
    exact fun x y hx hy => this x y (e1 a ha x hx) (e1 b hb y hy)
theorem cturn_rs (l : List CItm) (i : Nat) (t : CItm) (ht : l[i]? = some t) (v : List UInt8) : (l.set i (t.turn v)).flatMap CItm.rs = l.flatMap CItm.rs := by
  have hi := (List.getElem?_eq_some_iff.1 ht).1
  have et : l[i] = t := by rw [List.getElem?_eq_getElem hi] at ht; injection ht
  rw [List.flatMap_def, List.flatMap_def]
  congr 1
  rw [List.map_set]
  apply List.ext_getElem (by simp)
  intro n h1 h2
  rw [List.getElem_set]
  split
  · rename_i e; subst e; rw [List.getElem_map, et]; rfl
  · rfl
end
def RetCp (w : World) (l : List SetD) (e : Ending) (w' : World) : Prop := ∃ v is_, e = .returned v ∧ is_.map CItm.s = l ∧ w'.ownsRow w.heap.size 37 3 v is_.length (is_.flatMap CItm.rs) ∧ CLs w' w.heap.size is_ ∧ Below w.heap.size w w'
set_option maxRecDepth 100000 in
set_option maxHeartbeats 4000000 in
theorem setsCopy_any (A : Option Addr) (a : Nat) (l : List SetD) (w : World) (hs : Lst SetE w (fun _ => False) A a l) (hm : l.length ≤ 100000) :
    Calls Try.prog 17 #[.slice A l.length a] w (RetCp w l) := by
  have HS := Lib.hid hs
  have h1 := hs.le
  have h2 := hs.max
  have HM := Lib.hid hm
  clear hs
  generalize hn : l.length = n at *
  have HN := Lib.hid hn
  clear hn
  go_enter Try.func17, Try.ntmps17
  go_wp2_with fail
  go_loopg [4, 3] n (fun gk i v wr => ∃ (k : Nat) (is_ : List CItm), k ≤ n ∧ gk = n - k ∧ i = .int .i64 (k : Int) ∧ Hid (wr.ownsRow w.heap.size 37 3 v k (is_.flatMap CItm.rs) ∧ CLs wr w.heap.size is_ ∧ Below w.heap.size w wr ∧ True) ∧ Hid (is_.map CItm.s = l.take k))
  case atStart => exact ⟨0, [], by omega, rfl, rfl, Lib.hid ⟨⟨by simp, .inl ⟨rfl, rfl⟩⟩, CLs.nil _ _, Below.refl _ _, trivial⟩, by simp [Hid]⟩
  case round =>
    obtain ⟨k, is_, hk, rfl, rfl, HR, HE⟩ := hrel
    obtain ⟨AS, cS, rfl⟩ := row_slice HR.out.1
    by_cases hlt : k < n
    · have i1 : (k : Int) < (n : Int) := by omega
      have i0 : (0 : Int) ≤ (k : Int) := by omega
      obtain ⟨bk, off, A1, a1, B1, b1, rfl, hbk, c0, c1, c2, s1, s2⟩ := HS.out.set k _ (getD_get zeroSet (by rw [HN.out]; exact hlt))
      have HT := Lib.hid (take_getS l k (by rw [HN.out]; exact hlt))
      obtain ⟨⟨xk, xv, xg⟩, hx⟩ : ∃ y, l.getD k zeroSet = y := ⟨_, rfl⟩
      rw [hx] at c0 c1 c2 s1 s2 HT
      dsimp only at c0 c1 c2
      have S1 := Lib.hid s1.1
      have S2 := Lib.hid s2.1
      have C1 := Lib.hid c1
      have C2 := Lib.hid c2
      have HBK := Lib.hid hbk
      have y0 : wr.cell? ⟨bk, off + k * 3, none⟩ = some (.slice A1 xk.length a1) := (HR.out.2.2.1.cell (p := ⟨bk, _, none⟩) hbk).trans c0
      have P1 := Lib.hid (Help.bytes A1 a1 xk wr (S1.out.below HR.out.2.2.1))
      clear c0 c1 c2 s1 s2 hx hbk
      go_wp2_with fail
      (with_reducible refine P1.out.mono ?_)
      rintro e w2 ⟨v2, rfl, o2, hb2⟩
      have R2 := hkeep hb2 HR
      have O2 := Lib.hid o2
      have B2 := Lib.hid hb2
      have y1 : w2.cell? ⟨bk, off + k * 3 + 1, none⟩ = some (.slice B1 xv.length b1) := (R2.out.2.2.1.cell (p := ⟨bk, _, none⟩) HBK.out).trans C1.out
      have P2 := Lib.hid (Help.bytes B1 b1 xv w2 (S2.out.below R2.out.2.2.1))
      clear o2 hb2 P1 y0
      go_wp2_with fail
      (with_reducible refine P2.out.mono ?_)
      rintro e w3 ⟨v3, rfl, o3, hb3⟩
      have R3 := hkeep hb3 R2
      have y2 : w3.cell? ⟨bk, off + k * 3 + 2, none⟩ = some (.bool xg) := (R3.out.2.2.1.cell (p := ⟨bk, _, none⟩) HBK.out).trans C2.out
      obtain ⟨t, ht⟩ : ∃ t : CItm, t = ⟨(xk, xv, xg), v2, v3⟩ := ⟨_, rfl⟩
      have hok : t.ok w3 w.heap.size := by
        rw [ht]
        exact ⟨(O2.out.below hb3).mono HR.out.2.2.1.size, o3.mono R2.out.2.2.1.size, fun i j hi hj => Nat.lt_of_lt_of_le (own_lt O2.out hi) (o3.base_le hj)⟩
      have hcl := HR.out.2.1.push hok (below_step B2.out hb3) (fun i hi => by
        rw [ht] at hi
        rcases hi with hi | hi
        · exact O2.out.base_le hi
        · exact Nat.le_trans B2.out.size (o3.base_le hi))
      obtain ⟨A2, a2, rfl, -⟩ := O2.out.bs
      obtain ⟨A3, a3, rfl, -⟩ := o3.bs
      have hb4 := below_alloc (Below.refl w3.heap.size w3) (.cells #[.slice A2 xk.length a2, .slice A3 xv.length a3, .bool xg] 37)
      have X4 := Lib.hid (blk_new w3 (.cells #[.slice A2 xk.length a2, .slice A3 xv.length a3, .bool xg] 37))
      have R4 := hkeep hb4 (hand R3 hcl)
      have ers : t.rs = [.slice A2 xk.length a2, .slice A3 xv.length a3, .bool xg] := by rw [ht]; rfl
      have es : t.s = (xk, xv, xg) := by rw [ht]
      have ERS := Lib.hid ers
      have ES := Lib.hid es
      clear o3 hb3 P2 y1 hok hcl hb4 ht ers es HR R2 R3 O2 B2
      go_wp2_with (at_builtin; refine apB (B := w.heap.size) 37 22 _ 3 56 rfl (.tmp 25) (.tmp 34) rfl Try.underlying22 info_set rfl (by decide) (.slice AS k cS) k (is_.flatMap CItm.rs) [Value.slice A2 xk.length a2, .slice A3 xv.length a3, .bool xg] w3.heap.size 1 rfl rfl R4.out.2.1 X4.out rfl (by simp [Value.oneCell']) R4.out.2.2.2.1.size (by unfold maxLen; have := HM.out; omega) (by have := HM.out; omega) ?_; intro A5 c5 w5 o5 k5 n5; have O5 := Lib.hid o5; have L5 := Lib.hid (R4.out.1.far k5 (fun i hi _ => rows_notU8 R4.out.2.1 (by decide) hi)); have B5 := Lib.hid (below_only R4.out.2.2.2.1 k5 (fun i hi => rows_base R4.out.2.1 hi)); clear o5 k5 n5)
      go_roundg (n - (k + 1))
      case measure => omega
      case rel =>
        refine ⟨k + 1, is_ ++ [t], by omega, rfl, by go_num, Lib.hid ⟨?_, L5.out, B5.out, trivial⟩, ?_⟩
        · rw [List.flatMap_append, List.flatMap_cons, List.flatMap_nil, List.append_nil, ERS.out]; exact O5.out
        · rw [Hid, List.map_append, HE.out, HT.out, List.map_cons, List.map_nil, ES.out]
    · obtain rfl : k = n := by omega
      have i1 : ¬ (k : Int) < (k : Int) := by omega
      have HT : Hid (l.take k = l) := Lib.hid (List.take_of_length_le (by rw [HN.out]; omega))
      have HLN : Hid (is_.length = k) := Lib.hid (by have := congrArg List.length HE.out; rw [List.length_map, HT.out, HN.out] at this; exact this)
      go_wp2_with fail
      go_ret
      exact ⟨_, is_, rfl, by rw [HE.out, HT.out], by rw [HLN.out]; exact HR.out.1, HR.out.2.1, HR.out.2.2.1⟩
end Go.Proofs.Ytnhfeoniiadjfaa.Lst
/- A list of sets as it comes in. -/
namespace Go.Proofs.Ytnhfeoniiadjfaa.Lst
open Go.ChangeShapes Go.WideShapes Go.ChangeAt Go.RowKit Go.Proofs.Ytnhfeoniiadjfaa.K Go.Proofs.Ytnhfeoniiadjfaa.Help Go.Proofs.Ytnhfeoniiadjfaa.Pfx Go.Proofs.Ytnhfeoniiadjfaa.Peer
set_option linter.unusedVariables false
theorem cellsOf_set : Try.prog.cellsOf 37 = 3 := by kernel_rfl
theorem cellsOf_bool : Try.prog.cellsOf 4 = 1 := by kernel_rfl
set_option maxRecDepth 100000 in
theorem trod_sets {H : Type} {enc : TypeId × Value → H} {W : World} {fuel : Nat} {cs : List Value} {y : DataW H × List MemPlace} (h : DataW.trod enc Try.prog W 0 (fun _ => true) true fuel 22 cs = some y) (hz : Small y.1 22) :
    ∃ A c l, cs = [.slice A l.length c] ∧ Lst SetE W (fun _ => False) A c l := by
  refine trod_list SetE Try.underlying22 cellsOf_set (by decide) (fun n cs z hn hsm => ?_) h hz
  obtain ⟨xs, n', _, hx, hl, hxs, hfl⟩ := DataW.trod_struct Try.underlying37 hn
  rw [cellsOf_set] at hl
  match cs, hl with
  | [c0, c1, c2], _ =>
    have f0 : DataW.trod enc Try.prog W 0 (fun _ => true) true n' 27 (([c0, c1, c2].drop 0).take (Try.prog.cellsOf 27)) = xs[0]? := hfl 0 _ rfl
    have f1 : DataW.trod enc Try.prog W 0 (fun _ => true) true n' 27 (([c0, c1, c2].drop 1).take (Try.prog.cellsOf 27)) = xs[1]? := hfl 1 _ rfl
    have f2 : DataW.trod enc Try.prog W 0 (fun _ => true) true n' 4 (([c0, c1, c2].drop 2).take (Try.prog.cellsOf 4)) = xs[2]? := hfl 2 _ rfl
    rw [cellsOf_bytes] at f0 f1
    rw [cellsOf_bool] at f2
    have hxl : xs.length = 3 := hxs
    match xs, hxl with
    | [y0, y1, y2], _ =>
      have hd : z.1 = .agg [y0.1, y1.1, y2.1] := by rw [hx]; rfl
      have w0 : Small y0.1 27 := fun n hn => hsm n (by rw [hd]; simp only [DataW.weights, Try.underlying37]; simp [DataW.weightsEach]; exact .inl hn)
      have w1 : Small y1.1 27 := fun n hn => hsm n (by rw [hd]; simp only [DataW.weights, Try.underlying37]; simp [DataW.weightsEach]; exact .inr (.inl hn))
      obtain ⟨A, a, k, e0, s0⟩ := trod_bytes f0 w0
      obtain ⟨B, b, x, e1, s1⟩ := trod_bytes f1 w1
      obtain ⟨g, e2, _⟩ := DataW.trod_bool Try.underlying4 f2
      simp at e0 e1 e2
      subst e0 e1 e2
      exact ⟨(k, x, g), A, a, B, b, rfl, Bs.bsn s0, Bs.bsn s1⟩
set_option maxRecDepth 100000 in
theorem arg_sets {H : Type} {enc : TypeId × Value → H} {W : World} {b0 : Nat} {v : Value} {d : DataW H} {ps : List MemPlace}
    (hval : Value.okWide Try.prog W .any b0 22 v) (h : DataW.Trod enc Try.prog W 0 (fun _ => true) true 22 v d ps) (hz : Small d 22) :
    ∃ A c l, v = .slice A l.length c ∧ Lst SetE W (fun _ => False) A c l := by
  obtain ⟨a0, len, cap, rfl⟩ := okWide_slice Try.underlying22 hval
  obtain ⟨fuel, hf⟩ := h
  obtain ⟨A, c, l, e, hl⟩ := trod_sets hf hz
  simp [Value.cells] at e
  obtain ⟨rfl, rfl, rfl⟩ := e
  exact ⟨_, _, l, rfl, hl⟩
end Go.Proofs.Ytnhfeoniiadjfaa.Lst
/- One byte of a value is turned, in what was lent and in a copy. -/
namespace Go.Proofs.Ytnhfeoniiadjfaa.Lst
open Go.RowKit Go.Proofs.Ytnhfeoniiadjfaa.K Go.Proofs.Ytnhfeoniiadjfaa.Help Go.Proofs.Ytnhfeoniiadjfaa.Pfx Go.Proofs.Ytnhfeoniiadjfaa.Peer
set_option linter.unusedVariables false

theorem Lent.turnV {w : World} {B g : Nat} {S K V : Value} {l : List Itm} (h : Lent w B g S K V l) (i : Nat) (t : Itm) (ht : l[i]? = some t) (y : UInt8) (hv : 0 < t.s.2.1.length) :
    Lent (w.setCell ⟨t.gv, 0, none⟩ (.int .u8 (y.toNat : Int))) B g S K V (l.set i (t.turn (t.s.2.1.set 0 y))) ∧ Only w (w.setCell ⟨t.gv, 0, none⟩ (.int .u8 (y.toNat : Int))) (fun j => j = t.gv) := by
  have k : Only w (w.setCell ⟨t.gv, 0, none⟩ (.int .u8 (y.toNat : Int))) (fun j => j = t.gv) := (Only.refl w (fun j => j = t.gv)).setCell (p := ⟨t.gv, 0, none⟩) (.inl rfl) _
  obtain ⟨h1, h2, h3, h4, h5, h6, h7, h8, h9, h10⟩ := h.it.at_ i t ht
  have hB := h4.set 0 y
  rw [List.set_append_left _ _ (by simpa using hv)] at hB
  have hl : (t.s.2.1.set 0 y).length = t.s.2.1.length := by simp
  obtain ⟨e1, e2, e3⟩ := turn_rs l i t ht (t.s.2.1.set 0 y) hl
  have hne : ∀ (tt : TypeId) (cs' : Array Value) (fr : Nat × Nat) (i : Nat), w.heap[i]? = some (.cells cs' tt fr) → tt ≠ 5 → ¬ i = t.gv := fun tt cs' fr i q1 q2 e => by subst e; obtain ⟨cs, hc, _⟩ := h4; exact blk_ne q1 hc q2 rfl
  have hrow : ∀ {n sz : Nat} {tt : TypeId} {v : Value} {xs : List Value}, w.ownsRow B tt sz v n xs → tt ≠ 5 → (w.setCell ⟨t.gv, 0, none⟩ (.int .u8 (y.toNat : Int))).ownsRow B tt sz v n xs := fun q1 q2 => row_keep q1 k (fun i hi => by obtain ⟨cs', h3⟩ := rows_blk q1 hi; exact hne _ _ _ i h3 q2)
  refine ⟨⟨k.blk h.box (hne _ _ _ _ h.box (by decide)), h.hg, ?_, ?_, ?_, h.it.turn i t ht _ hl k hB, h.ne⟩, k⟩
  · rw [List.length_set, e1]; exact hrow h.s (by decide)
  · rw [List.length_set, e2]; exact hrow h.k (by decide)
  · rw [List.length_set, e3]; exact hrow h.v (by decide)
theorem lentB_turn {S : Value} {l : List Itm} {i : Nat} {t : Itm} (ht : l[i]? = some t) {v : List UInt8} {q : Nat} (h : lentB S (l.set i (t.turn v)) q) : lentB S l q := by
  rcases h with h | ⟨x, hx, h⟩
  · exact .inl h
  · refine .inr ?_
    rcases List.mem_or_eq_of_mem_set hx with h1 | h1
    · exact ⟨x, h1, h⟩
    · subst h1; exact ⟨t, List.mem_of_getElem? ht, h⟩
theorem CLs.low {w w' : World} {B : Nat} {l : List CItm} {T : Nat → Prop} (h : CLs w B l) (k : Only w w' T) (hT : ∀ i, T i → i < B) : CLs w' B l :=
  ⟨fun t ht => ⟨(h.ok t ht).1.only k (fun i hi e => by have := (h.ok t ht).1.base_le hi; have := hT i e; omega), (h.ok t ht).2.1.only k (fun i hi e => by have := (h.ok t ht).2.1.base_le hi; have := hT i e; omega), (h.ok t ht).2.2⟩, h.ord⟩
/-- the value's place in a copy's row -/
theorem crow_cell {w : World} {B n c : Nat} {A : Option Addr} {l : List CItm} (hr : w.ownsRow B 37 3 (.slice A n c) n (l.flatMap CItm.rs)) (i : Nat) (t : CItm) (ht : l[i]? = some t) (hn : l.length = n) : ∃ cb, A = some ⟨cb, 0, none⟩ ∧ w.cell? ⟨cb, i * 3 + 1, none⟩ = some t.vv := by
  have hi := (List.getElem?_eq_some_iff.1 ht).1
  have hcell := fun (g : Nat) (hg : (Value.slice A n c).ownBlock = some g) => hr.cells hg
  rcases hr.2 with ⟨h1, h0⟩ | ⟨cb, cap, cur, h1, _⟩
  · omega
  · injection h1 with h1 _ h2
    subst h1
    refine ⟨cb, rfl, ?_⟩
    have hf := flat_at (sz := 3) (raws := l.map CItm.rs) (fun r hr => by obtain ⟨t, _, rfl⟩ := List.mem_map.1 hr; rfl) i 1 t.rs (by rw [List.getElem?_map, ht]; rfl) (by omega)
    rw [← List.flatMap_def] at hf
    have := hcell cb rfl (i * 3 + 1) t.vv (by rw [hf]; rfl)
    rwa [addr_add_plain] at this
theorem CLs.turnV {w : World} {B q c : Nat} {l : List CItm} (h : CLs w B l) (i : Nat) (t : CItm) (ht : l[i]? = some t) (y : UInt8) (hvv : t.vv = .slice (some ⟨q, 0, none⟩) t.s.2.1.length c) :
    CLs (w.setCell ⟨q, 0, none⟩ (.int .u8 (y.toNat : Int))) B (l.set i (t.turn (t.s.2.1.set 0 y))) ∧ Only w (w.setCell ⟨q, 0, none⟩ (.int .u8 (y.toNat : Int))) (fun j => j = q) := by
  have k : Only w (w.setCell ⟨q, 0, none⟩ (.int .u8 (y.toNat : Int))) (fun j => j = q) := (Only.refl w (fun j => j = q)).setCell (p := ⟨q, 0, none⟩) (.inl rfl) _
  have ho := (h.ok t (List.mem_of_getElem? ht)).2.1
  refine ⟨h.turn i t ht _ (q := q) (by rw [hvv]; rfl) k ?_, k⟩
  have h1 := ho.1
  have h2 := ho.2
  rw [hvv] at h1 ⊢
  refine ⟨?_, by simpa using h2⟩
  have h3 := rows_set h1 0 (.int .u8 (y.toNat : Int))
  have e : (u8s t.s.2.1).set 0 (.int .u8 (y.toNat : Int)) = u8s (t.s.2.1.set 0 y) := by unfold u8s; rw [List.map_set]; rfl
  rw [e] at h3
  simpa using h3
theorem crow_low {w w' : World} {B n q : Nat} {v : Value} {xs : List Value} (hr : w.ownsRow B 37 3 v n xs) (k : Only w w' (fun i => i = q)) {L : List UInt8} (hB : Byt w q L) : w'.ownsRow B 37 3 v n xs :=
  row_keep hr k (fun i hi e => by
    obtain ⟨cs, h1⟩ := rows_blk hr hi
    obtain ⟨cs', h2, _⟩ := hB
    exact blk_ne h1 (e ▸ h2) (by decide) rfl)
theorem map_turnI {l : List Itm} {i : Nat} {t : Itm} (v : List UInt8) : (l.set i (t.turn v)).map Itm.s = (l.map Itm.s).set i (t.s.1, v, t.s.2.2) := by rw [List.map_set]; rfl
theorem map_turnC {l : List CItm} {i : Nat} {t : CItm} (v : List UInt8) : (l.set i (t.turn v)).map CItm.s = (l.map CItm.s).set i (t.s.1, v, t.s.2.2) := by rw [List.map_set]; rfl
end Go.Proofs.Ytnhfeoniiadjfaa.Lst
/- The walk of TablePuts. -/
namespace Go.Proofs.Ytnhfeoniiadjfaa.tablePuts
open Go.RowKit Go.Proofs.Ytnhfeoniiadjfaa.K Go.Proofs.Ytnhfeoniiadjfaa.Help Go.Proofs.Ytnhfeoniiadjfaa.Lst Go.Proofs.Ytnhfeoniiadjfaa.Peer
set_option linter.unusedVariables false

theorem app_head (l m : List UInt8) (h : 0 < l.length) : (l ++ m).getD 0 0 = l.getD 0 0 := by
  cases l with
  | nil => simp at h
  | cons x r => rfl
theorem shortB_of {l : List SetD} (h : shortB l = true) : l.length ≤ 2000 ∧ ∀ k, k < l.length → shortAt l k := by
  unfold shortB at h
  rw [Bool.and_eq_true, decide_eq_true_eq, decide_eq_true_eq] at h
  exact h
set_option maxRecDepth 100000 in
set_option maxHeartbeats 4000000 in
theorem walk (A : Option Addr) (a : Nat) (l : List SetD) (z : Int) (hz1 : -9223372036854775808 ≤ z) (hz2 : z ≤ 9223372036854775807) (W : World) (hs : Lst SetE W (fun _ => False) A a l) :
    Calls Try.prog 3 #[.slice A l.length a, .int .i64 z] W fun e W' => e = .returned (.bool true) ∧ Below W.heap.size W W' := by
  have h1 := hs.le
  have h2 := hs.max
  have P1 := Lib.hid (first13_any W)
  have S0 := hstart hs
  have HS0 := Lib.hid hs
  clear hs
  go_enter Try.func3, Try.ntmps3
  go_wp2_with fail
  (with_reducible refine P1.out.mono ?_)
  rintro e w1 ⟨rfl, hb1⟩
  have S1 := hand (hkeep hb1 S0) hb1
  have P2 := Lib.hid (short_any A a l w1 S1.out.2.1)
  have HSB := Lib.hid (shortB_of (l := l))
  clear hb1 S0 P1
  generalize shortB l = sb at *
  go_wp2_with fail
  (with_reducible refine P2.out.mono ?_)
  rintro e w2 ⟨rfl, hb2⟩
  have S2 := hkeep hb2 S1
  clear hb2 S1 P2
  cases sb
  · go_wp2_with fail
    go_ret
    exact ⟨rfl, S2.out.1⟩
  · obtain ⟨hm, hsh⟩ := HSB.out rfl
    have P3 := Lib.hid (lend_any A a l w2 S2.out.2.1 hm hsh)
    have HSH := Lib.hid hsh
    clear hsh HSB
    obtain ⟨n, hn⟩ : ∃ n, n = l.length := ⟨_, rfl⟩
    rw [← hn] at P3 hm h1 ⊢
    have HN := Lib.hid hn
    clear hn
    go_wp2_with fail
    (with_reducible refine P3.out.mono ?_)
    rintro e w3 ⟨g, S, K, V, is_, rfl, his, hl3, hb3⟩
    have HIS := Lib.hid his
    have HIL : Hid (is_.length = n) := Lib.hid (by rw [HN.out, ← his, List.length_map])
    have S3 := hand (hkeep hb3 S2) hl3
    have P4 := Lib.hid (of_any _ g S K V is_ w3 hl3 (by rw [HIL.out]; exact hm))
    have HB : Hid (W.heap.size ≤ w2.heap.size) := Lib.hid S2.out.1.size
    rw [HIL.out, HIS.out] at P4
    clear hl3 hb3 S2 P3 his
    go_wp2_with fail
    (with_reducible refine P4.out.mono ?_)
    rintro e w4 ⟨A4, rfl, l4, rfl⟩
    have P5 := Lib.hid (putSets_any A4 (n + 1) l w3 l4 (by rw [← HN.out]; omega))
    have P6 := Lib.hid (fun w h => refPutSets_any A a l w h (by rw [← HN.out]; omega))
    rw [← HN.out] at P5 P6
    clear l4 P4
    generalize putSetsD l = r at *
    obtain ⟨rb, re⟩ := r
    go_wp2_with fail
    (with_reducible refine P5.out.mono ?_)
    rintro e w5 ⟨B5, d5, rfl, b5, hb5, -⟩
    have S5 := hand (hkeep hb5 S3) b5
    clear b5 hb5 S3 P5
    dsimp only at S5 ⊢
    go_wp2_with fail
    (with_reducible refine (P6.out _ S5.out.2.2.2.1).mono ?_)
    rintro e w6 ⟨B6, d6, rfl, b6, hb6, -⟩
    have S6 := hand (hkeep hb6 S5) b6
    clear b6 hb6 S5 P6
    dsimp only at S6 ⊢
    have P7 := Lib.hid (sameBytes B5 B6 d5 d6 rb rb w6 S6.out.2.1 S6.out.1)
    rw [show decide (rb = rb) = true by simp] at P7
    go_wp2_with fail
    (with_reducible refine P7.out.mono ?_)
    rintro e w7 ⟨q7, rfl, rfl⟩
    have S7 := hkeep (below_drewN (Below.refl w6.heap.size w6) q7) S6
    generalize w6.drewN q7 = w7 at *
    clear P7 S6
    have hne : (re != re) = false := by simp
    go_wp2_with fail
    (with_reducible refine (num13_any _ _).mono ?_)
    rintro e wq ⟨rfl, rfl⟩
    rcases Nat.eq_zero_or_pos n with h0 | h0
    · subst h0
      have i1 : ¬ (0 : Int) < ((0 : Nat) : Int) := by omega
      have HLN := Lib.hid (HS0.out.reno (N' := fun i => w2.heap.size ≤ i) (fun i h => .inr (Nat.le_trans HB.out h)))
      have P9 := Lib.hid (held_any _ g S K V is_ A a (fun i => w2.heap.size ≤ i) w7 S7.out.2.2.1 (by rw [HIL.out]; exact hm) (by rw [HIS.out]; exact HLN.out.below S7.out.2.2.2.1) (fun i h => (lentB_base S7.out.2.2.1 h).1))
      have HBL : Hid (∀ i, lentB S is_ i → W.heap.size ≤ i) := Lib.hid (fun i h => Nat.le_trans HB.out (lentB_base S7.out.2.2.1 h).1)
      rw [HIS.out, ← HN.out] at P9
      go_wp2_with fail
      (with_reducible refine P9.out.mono ?_)
      rintro e w8 ⟨rfl, k8⟩
      have B8 := Lib.hid (below_only S7.out.2.2.2.1 k8 HBL.out)
      have heq : (re == re) = true := by simp
      clear k8 P9
      go_wp2_with fail
      (with_reducible refine (num13_any _ _).mono ?_)
      rintro e wq ⟨rfl, rfl⟩
      go_wp2_with fail
      exact bodyPost_ret (v := .bool true) (by simp [results, Try.results3, go_sem]) rfl ⟨rfl, B8.out⟩
    · have i1 : (0 : Int) < (n : Int) := by omega
      obtain ⟨j, hj, hjj⟩ := tmod_idx z n h0 (by omega)
      have j0 : (0 : Int) ≤ (j : Int) := by omega
      have j1 : (j : Int) < (n : Int) := by omega
      obtain ⟨bk, off, A1, a1, B1, b1, rfl, hbk, c0, c1, c2, s1, s2⟩ := S7.out.2.2.2.2.1.set j _ (getD_get zeroSet (by rw [← HN.out]; exact hj))
      obtain ⟨⟨xk, xv, xg⟩, hx⟩ : ∃ y, l.getD j zeroSet = y := ⟨_, rfl⟩
      rw [hx] at c1
      have HX := Lib.hid hx
      dsimp only at c1
      clear c0 c2 s1 s2 hx
      rcases Nat.eq_zero_or_pos xv.length with hv | hv
      · have i2 : ¬ (0 : Int) < (xv.length : Int) := by omega
        have i3 : decide ((0 : Int) < (xv.length : Int)) = false := by rw [decide_eq_false_iff_not]; omega
        have i4 : decide (0 < xv.length) = false := by rw [decide_eq_false_iff_not]; omega
        have HLN := Lib.hid (HS0.out.reno (N' := fun i => w2.heap.size ≤ i) (fun i h => .inr (Nat.le_trans HB.out h)))
        have P9 := Lib.hid (held_any _ g S K V is_ (some ⟨bk, off, none⟩) a (fun i => w2.heap.size ≤ i) w7 S7.out.2.2.1 (by rw [HIL.out]; exact hm) (by rw [HIS.out]; exact HLN.out.below S7.out.2.2.2.1) (fun i h => (lentB_base S7.out.2.2.1 h).1))
        have HBL : Hid (∀ i, lentB S is_ i → W.heap.size ≤ i) := Lib.hid (fun i h => Nat.le_trans HB.out (lentB_base S7.out.2.2.1 h).1)
        rw [HIS.out, ← HN.out] at P9
        go_wp2_with fail
        (with_reducible refine P9.out.mono ?_)
        rintro e w8 ⟨rfl, k8⟩
        have B8 := Lib.hid (below_only S7.out.2.2.2.1 k8 HBL.out)
        have heq : (re == re) = true := by simp
        clear k8 P9
        go_wp2_with fail
        (with_reducible refine (num13_any _ _).mono ?_)
        rintro e wq ⟨rfl, rfl⟩
        go_wp2_with fail
        exact bodyPost_ret (v := .bool true) (by simp [results, Try.results3, go_sem]) rfl ⟨rfl, B8.out⟩
      · have i2 : (0 : Int) < (xv.length : Int) := by omega
        have P8 := Lib.hid (setsCopy_any (some ⟨bk, off, none⟩) a l w7 S7.out.2.2.2.2.1 (by rw [← HN.out]; omega))
        rw [← HN.out] at P8
        go_wp2_with fail
        (with_reducible refine P8.out.mono ?_)
        rintro e w8 ⟨vc, cis, rfl, hcs, hcr, hcl, hb8⟩
        have S8 := hand (hand (hkeep hb8 S7) hcr) hcl
        have HB8 := Lib.hid hb8
        have HCN : Hid (cis.length = n) := Lib.hid (by rw [HN.out, ← hcs, List.length_map])
        have hlj : l[j]? = some (xk, xv, xg) := by rw [← HX.out]; exact getD_get zeroSet (by rw [← HN.out]; exact hj)
        obtain ⟨t, ht, hts⟩ : ∃ t, cis[j]? = some t ∧ t.s = (xk, xv, xg) := by
          rw [← hcs, List.getElem?_map] at hlj
          obtain ⟨t, h1, h2⟩ := Option.map_eq_some_iff.1 hlj
          exact ⟨t, h1, h2⟩
        obtain ⟨u, hu, hus⟩ : ∃ u, is_[j]? = some u ∧ u.s = (xk, xv, xg) := by
          rw [← HIS.out, List.getElem?_map] at hlj
          obtain ⟨t, h1, h2⟩ := Option.map_eq_some_iff.1 hlj
          exact ⟨t, h1, h2⟩
        have HUB : Hid (∀ i, lentB S is_ i → i < w7.heap.size ∧ W.heap.size ≤ i) := Lib.hid (fun i h => ⟨(lentB_base S7.out.2.2.1 h).2, Nat.le_trans HB.out (lentB_base S7.out.2.2.1 h).1⟩)
        have HUG : Hid (u.gv < w7.heap.size ∧ W.heap.size ≤ u.gv) := Lib.hid (HUB.out _ (.inr ⟨u, List.mem_of_getElem? hu, .inr rfl⟩))
        have HTC := Lib.hid ht
        obtain ⟨AC, cC, rfl⟩ := row_slice hcr
        rw [HCN.out] at hcr S8 ⊢
        obtain ⟨cb, rfl, hcell⟩ := crow_cell hcr j t ht HCN.out
        obtain ⟨gb, gc, ev, hgb, hgc, -, hbyt⟩ := own_byt (hcl.ok t (List.mem_of_getElem? ht)).2.1 (by rw [hts]; exact hv)
        rw [ev, hts] at hcell
        rw [hts] at hbyt ev
        dsimp only at hcell hbyt ev
        have y1 := hbyt.cell 0 hv
        have z1 := hbyt.free 0
        obtain ⟨x0, hx0⟩ : ∃ x0, xv.getD 0 0 = x0 := ⟨_, rfl⟩
        rw [hx0] at y1
        have HX0 := Lib.hid hx0
        clear hx0
        obtain ⟨y, hy⟩ : ∃ y : UInt8, bits .xor .u8 (x0.toNat : Int) 85 = (y.toNat : Int) := ⟨UInt8.ofNat (x0.toNat ^^^ 85), by
          have h1 := x0.toNat_lt
          have h2 := u8_xor_nat x0.toNat 85 h1 (by omega)
          rw [ofNat_small (Nat.xor_lt_two_pow (n := 8) h1 (by omega))]
          exact h2⟩
        have CT := hcl.turnV j t ht y (q := gb) (c := gc) (by rw [hts]; exact ev)
        rw [hts] at CT
        dsimp only at CT
        have B9 := Lib.hid (below_only hb8 CT.2 (fun i hi => by rw [hi]; exact hgb))
        have R9 := crow_low hcr CT.2 hbyt
        have S9 := hand (hand (hkeep B9.out S7) R9) CT.1
        have w9size := B9.out.size
        have HCS9 : Hid ((cis.set j (t.turn (xv.set 0 y))).map CItm.s = l.set j (xk, xv.set 0 y, xg)) := Lib.hid (by rw [map_turnC, hcs, hts])
        clear hb8 hcr hcl hcs ht hts hgb hgc hbyt ev CT R9 S7 S8 P8
        obtain ⟨KV, cV, rfl⟩ := row_slice S9.out.2.2.2.2.1.v
        have hrv := S9.out.2.2.2.2.1.v
        obtain ⟨vb, rfl, -, -, hvcell, -⟩ := row_cell hrv j (by rw [HIL.out]; exact hj)
        have gv_ : (is_.map Itm.rv).getD j default = .slice (some ⟨u.gv, 0, none⟩) (xv.length + 2) u.cv := by
          simp only [List.getD_eq_getElem?_getD, List.getElem?_map, hu, Option.map_some, Option.getD_some]
          unfold Itm.rv
          rw [hus]
        rw [gv_] at hvcell
        obtain ⟨-, -, -, hub, -⟩ := S9.out.2.2.2.2.1.it.at_ j u hu
        rw [hus] at hub
        dsimp only at hub
        have q2 := hub.cell 0 (by simp)
        rw [app_head xv _ hv, HX0.out] at q2
        have q3 := hub.free 0
        have x2 := (blk_cell S9.out.2.2.2.2.1.box 2).trans (b := some (Value.slice (some ⟨vb, 0, none⟩) is_.length cV)) rfl
        have LT := S9.out.2.2.2.2.1.turnV j u hu y (by rw [hus]; exact hv)
        rw [hus] at LT
        dsimp only at LT
        have L10 := Lib.hid LT.1
        have C10 := Lib.hid (S9.out.1.low LT.2 (fun i hi => by rw [hi]; exact HUG.out.1))
        have R10 := Lib.hid (crow_low S9.out.2.1 LT.2 hub)
        have B10 := Lib.hid (below_only S9.out.2.2.2.2.2.1 LT.2 (fun i hi => by rw [hi]; exact HUG.out.2))
        have HIS10 : Hid ((is_.set j (u.turn (xv.set 0 y))).map Itm.s = l.set j (xk, xv.set 0 y, xg)) := Lib.hid (by rw [map_turnI, HIS.out, hus])
        have HBL : Hid (∀ i, lentB S (is_.set j (u.turn (xv.set 0 y))) i → i < w7.heap.size ∧ W.heap.size ≤ i) := Lib.hid (fun i h => HUB.out i (lentB_turn hu h))
        have OL := C10.out.ownL (N := fun i => i < w7.heap.size) (v := .slice (some ⟨cb, 0, none⟩) n cC) (by rw [List.length_set, HCN.out, cturn_rs _ _ _ HTC.out]; exact R10.out) (fun i h => h) (by rw [List.length_set, HCN.out]; omega)
        rw [HCS9.out] at OL
        obtain ⟨A', c', ev, LQ⟩ := OL.lst (N := fun i => i < w7.heap.size) (fun i hi h => by have := rows_base R10.out hi; omega)
        have hl' : (l.set j (xk, xv.set 0 y, xg)).length = n := by rw [List.length_set, ← HN.out]
        rw [hl'] at ev
        cases ev
        have HLL := Lib.hid LQ
        have HL' := Lib.hid hl'
        have HIL' : Hid ((is_.set j (u.turn (xv.set 0 y))).length = n) := Lib.hid (by rw [List.length_set]; exact HIL.out)
        have k1 : (j : Int) < (is_.length : Int) := by rw [HIL.out]; omega
        have k2 : (0 : Int) < (xv.length : Int) + 2 := by omega
        have k3 : (0 : Int) < ((xv.length + 2 : Nat) : Int) := by omega
        clear OL LQ LT hl' hrv gv_ hub S9 C10 HTC HCS9 hlj hu hus HUB R10
        generalize is_.set j (u.turn (xv.set 0 y)) = is2 at *
        generalize l.set j (xk, xv.set 0 y, xg) = l2 at *
        have P10 := Lib.hid (of_any _ g S K _ is2 _ L10.out (by rw [HIL'.out]; exact hm))
        rw [HIL'.out, HIS10.out] at P10
        have P6 := Lib.hid (fun w h => refPutSets_any (some ⟨cb, 0, none⟩) cC l2 w h (by rw [HL'.out]; omega))
        have PP := Lib.hid (fun A w h => putSets_any A (n + 1) l2 w h (by rw [HL'.out]; omega))
        rw [HL'.out] at P6 PP
        go_wp2_with fail
        (with_reducible refine P10.out.mono ?_)
        rintro e w4 ⟨A4', rfl, l4, rfl⟩
        have P5 := Lib.hid (PP.out A4' _ l4)
        have S3 := hand (hand (hstart HLL.out) L10.out) B10.out
        clear l4 P10 PP HLL L10 B10 y1 z1 hcell hvcell q2 q3 x2 hy
        generalize (w8.setCell ⟨gb, 0, none⟩ (.int .u8 (y.toNat : Int))).setCell ⟨u.gv, 0, none⟩ (.int .u8 (y.toNat : Int)) = w10 at *
        generalize putSetsD l2 = r2 at *
        obtain ⟨rb2, re2⟩ := r2
        go_wp2_with fail
        (with_reducible refine P5.out.mono ?_)
        rintro e w11 ⟨B11, d11, rfl, b11, hb11, -⟩
        have S11 := hand (hkeep hb11 S3) b11
        clear b11 hb11 S3 P5
        dsimp only at S11 ⊢
        go_wp2_with fail
        (with_reducible refine (P6.out _ S11.out.2.2.2.1.free).mono ?_)
        rintro e w12 ⟨B12, d12, rfl, b12, hb12, -⟩
        have S12 := hand (hkeep hb12 S11) b12
        clear b12 hb12 S11 P6
        dsimp only at S12 ⊢
        have P7 := Lib.hid (sameBytes B11 B12 d11 d12 rb2 rb2 w12 S12.out.2.1 S12.out.1)
        rw [show decide (rb2 = rb2) = true by simp] at P7
        go_wp2_with fail
        (with_reducible refine P7.out.mono ?_)
        rintro e w13 ⟨q13, rfl, rfl⟩
        have S13 := hkeep (below_drewN (Below.refl w12.heap.size w12) q13) S12
        generalize w12.drewN q13 = w13 at *
        clear P7 S12
        have P9 := Lib.hid (held_any _ g S K _ is2 (some ⟨cb, 0, none⟩) cC (fun i => i < w7.heap.size) w13 S13.out.2.2.2.1 (by rw [HIL'.out]; exact hm) (by rw [HIS10.out]; exact S13.out.2.2.2.2.1) (fun i h => (HBL.out i h).1))
        rw [HIS10.out, HL'.out] at P9
        go_wp2_with fail
        (with_reducible refine P9.out.mono ?_)
        rintro e w14 ⟨rfl, k14⟩
        have B14 := Lib.hid (below_only S13.out.2.2.1 k14 (fun i h => (HBL.out i h).2))
        have heq : (re2 == re2) = true := by simp
        clear k14 P9
        go_wp2_with fail
        (with_reducible refine (num13_any _ _).mono ?_)
        rintro e wq ⟨rfl, rfl⟩
        go_wp2_with fail
        exact bodyPost_ret (v := .bool true) (by simp [results, Try.results3, go_sem]) rfl ⟨rfl, B14.out⟩
end Go.Proofs.Ytnhfeoniiadjfaa.tablePuts
