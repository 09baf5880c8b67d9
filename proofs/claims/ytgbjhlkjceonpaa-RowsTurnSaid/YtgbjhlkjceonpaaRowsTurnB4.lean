/- Contracts of the functions that RowsTurn reaches: part 4 of 5. -/
import Derived.Test.YtgbjhlkjceonpaaRowsTurnB3
import Derived.Maps.OwnSet
import Derived.Maps.RangeWalk
import Derived.Sort.KeysCollected
import Derived.Sort.OwnSorted
import Derived.Shelf.Sort.Plain
import Derived.Shelf.Slices.In.SortNone
import Derived.LoopN
import Derived.Laws.IdiomStrings
import Derived.Carry
import Derived.Lib.BytesEntry
import Derived.Lib.Bytealg
import Derived.Shelf.SlSortCmp.WholeK
import Derived.Shelf.SlSortCmp.NoneTotal
/- Rows, peers and lanes as elements of lists; such lists as arguments. -/
namespace Go.Proofs.Ytgbjhlkjceonpaa.Lst
open Go.ChangeShapes Go.WideShapes Go.ChangeAt Go.RowKit Go.Proofs.Ytgbjhlkjceonpaa.K Go.Proofs.Ytgbjhlkjceonpaa.Help Go.Proofs.Ytgbjhlkjceonpaa.Pfx Go.Proofs.Ytgbjhlkjceonpaa.Peer
set_option linter.unusedVariables false

abbrev RowD := List UInt8 × List UInt8
def RowR (w : World) (N : Nat → Prop) (raw : List Value) (x : RowD) : Prop := ∃ A a B b, raw = [.slice A x.1.length a, .slice B x.2.length b] ∧ BsN w N A a x.1 ∧ BsN w N B b x.2
def RowE : Elem RowD where
  sz := 2
  R := RowR
  len := fun ⟨A, a, B, b, h, _⟩ => by rw [h]; rfl
  one := fun ⟨A, a, B, b, h, _⟩ u hu => by
    rw [h] at hu
    simp only [List.mem_cons, List.not_mem_nil, or_false] at hu
    rcases hu with rfl | rfl <;> rfl
  below := fun ⟨A, a, B, b, h, h1, h2⟩ hb => ⟨A, a, B, b, h, h1.below hb, h2.below hb⟩
  only := fun ⟨A, a, B, b, h, h1, h2⟩ k hT => ⟨A, a, B, b, h, h1.only k hT, h2.only k hT⟩
  reno := fun ⟨A, a, B, b, h, h1, h2⟩ hN => ⟨A, a, B, b, h, h1.reno hN, h2.reno hN⟩
def PeerRr (w : World) (N : Nat → Prop) (raw : List Value) (x : PeerD) : Prop := ∃ A a B b, raw = [.int .i64 x.link, .slice A x.key.length a, .slice B x.ps.length b] ∧ BsN w N A a x.key ∧ PsN w N B b x.ps
def PeerE : Elem PeerD where
  sz := 3
  R := PeerRr
  len := fun ⟨A, a, B, b, h, _⟩ => by rw [h]; rfl
  one := fun ⟨A, a, B, b, h, _⟩ u hu => by
    rw [h] at hu
    simp only [List.mem_cons, List.not_mem_nil, or_false] at hu
    rcases hu with rfl | rfl | rfl <;> rfl
  below := fun ⟨A, a, B, b, h, h1, h2⟩ hb => ⟨A, a, B, b, h, h1.below hb, h2.below hb⟩
  only := fun ⟨A, a, B, b, h, h1, h2⟩ k hT => ⟨A, a, B, b, h, h1.only k hT, h2.only k hT⟩
  reno := fun ⟨A, a, B, b, h, h1, h2⟩ hN => ⟨A, a, B, b, h, h1.reno hN, h2.reno hN⟩
def LaneRr (w : World) (N : Nat → Prop) (raw : List Value) (d : LaneD) : Prop := ∃ A a, raw = [.slice A d.key.length a, .int .i64 d.side, .int .i64 d.cur, .int .i64 d.next, .int .u64 (d.sc : Int), .int .u64 (d.ceil : Int), .int .i64 d.sec, .int .i64 d.nano] ∧ BsN w N A a d.key ∧ LaneB d
def LaneE : Elem LaneD where
  sz := 8
  R := LaneRr
  len := fun ⟨A, a, h, _⟩ => by rw [h]; rfl
  one := fun ⟨A, a, h, _⟩ u hu => by
    rw [h] at hu
    simp only [List.mem_cons, List.not_mem_nil, or_false] at hu
    rcases hu with rfl | rfl | rfl | rfl | rfl | rfl | rfl | rfl <;> rfl
  below := fun ⟨A, a, h, h1, h2⟩ hb => ⟨A, a, h, h1.below hb, h2⟩
  only := fun ⟨A, a, h, h1, h2⟩ k hT => ⟨A, a, h, h1.only k hT, h2⟩
  reno := fun ⟨A, a, h, h1, h2⟩ hN => ⟨A, a, h, h1.reno hN, h2⟩
section
variable {w : World} {N : Nat → Prop} {A : Option Addr} {c : Nat}
/-- row i of a list -/
theorem Lst.row {l : List RowD} (h : Lst RowE w N A c l) (i : Nat) (x : RowD) (hx : l[i]? = some x) :
    ∃ bk off A1 a1 B1 b1, A = some ⟨bk, off, none⟩ ∧ bk < w.heap.size ∧ w.cell? ⟨bk, off + i * 2, none⟩ = some (.slice A1 x.1.length a1) ∧ w.cell? ⟨bk, off + i * 2 + 1, none⟩ = some (.slice B1 x.2.length b1) ∧ BsN w N A1 a1 x.1 ∧ BsN w N B1 b1 x.2 := by
  obtain ⟨bk, off, raw, e, hlt, _, hc, A1, a1, B1, b1, hr, h1, h2⟩ := h.at_ i x hx
  subst hr
  exact ⟨bk, off, A1, a1, B1, b1, e, hlt, hc 0 (by decide), hc 1 (by decide), h1, h2⟩
theorem Lst.peer {l : List PeerD} (h : Lst PeerE w N A c l) (i : Nat) (x : PeerD) (hx : l[i]? = some x) :
    ∃ bk off A1 a1 B1 b1, A = some ⟨bk, off, none⟩ ∧ bk < w.heap.size ∧ w.cell? ⟨bk, off + i * 3, none⟩ = some (.int .i64 x.link) ∧ w.cell? ⟨bk, off + i * 3 + 1, none⟩ = some (.slice A1 x.key.length a1) ∧ w.cell? ⟨bk, off + i * 3 + 2, none⟩ = some (.slice B1 x.ps.length b1)
      ∧ BsN w N A1 a1 x.key ∧ PsN w N B1 b1 x.ps := by
  obtain ⟨bk, off, raw, e, hlt, _, hc, A1, a1, B1, b1, hr, h1, h2⟩ := h.at_ i x hx
  subst hr
  exact ⟨bk, off, A1, a1, B1, b1, e, hlt, hc 0 (by decide), hc 1 (by decide), hc 2 (by decide), h1, h2⟩
theorem Lst.lane {l : List LaneD} (h : Lst LaneE w N A c l) (i : Nat) (x : LaneD) (hx : l[i]? = some x) :
    ∃ bk off A1 a1, A = some ⟨bk, off, none⟩ ∧ bk < w.heap.size ∧ w.cell? ⟨bk, off + i * 8, none⟩ = some (.slice A1 x.key.length a1) ∧ w.cell? ⟨bk, off + i * 8 + 1, none⟩ = some (.int .i64 x.side) ∧ w.cell? ⟨bk, off + i * 8 + 2, none⟩ = some (.int .i64 x.cur)
      ∧ w.cell? ⟨bk, off + i * 8 + 3, none⟩ = some (.int .i64 x.next) ∧ w.cell? ⟨bk, off + i * 8 + 4, none⟩ = some (.int .u64 (x.sc : Int)) ∧ w.cell? ⟨bk, off + i * 8 + 5, none⟩ = some (.int .u64 (x.ceil : Int))
      ∧ w.cell? ⟨bk, off + i * 8 + 6, none⟩ = some (.int .i64 x.sec) ∧ w.cell? ⟨bk, off + i * 8 + 7, none⟩ = some (.int .i64 x.nano) ∧ BsN w N A1 a1 x.key ∧ LaneB x := by
  obtain ⟨bk, off, raw, e, hlt, _, hc, A1, a1, hr, h1, h2⟩ := h.at_ i x hx
  subst hr
  exact ⟨bk, off, A1, a1, e, hlt, hc 0 (by decide), hc 1 (by decide), hc 2 (by decide), hc 3 (by decide), hc 4 (by decide), hc 5 (by decide), hc 6 (by decide), hc 7 (by decide), h1, h2⟩
end
theorem info_row : (Try.prog.info? 29).map (fun i => (i.zero, i.size, i.bytes)) = some (some (.agg #[.slice none 0 0, .slice none 0 0]), 2, 48) := by kernel_rfl
theorem info_peer : (Try.prog.info? 55).map (fun i => (i.zero, i.size, i.bytes)) = some (some (.agg #[.int .i64 0, .slice none 0 0, .slice none 0 0]), 3, 56) := by kernel_rfl
theorem info_lane : (Try.prog.info? 27).map (fun i => (i.zero, i.size, i.bytes)) = some (some (.agg #[.slice none 0 0, .int .i64 0, .int .i64 0, .int .i64 0, .int .u64 0, .int .u64 0, .int .i64 0, .int .i64 0]), 8, 80) := by kernel_rfl
/-! lists that come in -/
theorem mem_weightsAll {H : Type} {P : Program} {e : TypeId} {d : DataW H} {n : Nat} : ∀ {ds : List (DataW H)}, d ∈ ds → n ∈ d.weights P e → n ∈ DataW.weightsAll P e ds
  | [], h, _ => by simp at h
  | x :: r, h, hn => by
    simp only [DataW.weightsAll, List.mem_append]
    rcases List.mem_cons.1 h with rfl | h
    · exact .inl hn
    · exact .inr (mem_weightsAll h hn)
theorem trod_list {H : Type} {enc : TypeId × Value → H} {W : World} {fuel : Nat} {cs : List Value} {y : DataW H × List MemPlace} {α : Type} (E : Elem α) {ts e : TypeId} (hts : Try.prog.underlying ts = some (.slice e)) (hsz : Try.prog.cellsOf e = E.sz) (hs0 : 0 < E.sz)
    (hel : ∀ (n : Nat) (cs : List Value) (z : DataW H × List MemPlace), DataW.trod enc Try.prog W 0 (fun _ => true) true n e cs = some z → Small z.1 e → ∃ x, E.R W (fun _ => False) cs x)
    (h : DataW.trod enc Try.prog W 0 (fun _ => true) true fuel ts cs = some y) (hz : Small y.1 ts) :
    ∃ A c l, cs = [.slice A l.length c] ∧ Lst E W (fun _ => False) A c l := by
  rcases Go.Deep.open_slice hts h with ⟨hcs, hx⟩ | ⟨a, len, cap, m, n, D, Pl, hcs, _, hl, hm, hmm, hx, hcell⟩
  · exact ⟨none, 0, [], hcs, Lst.nil _ _⟩
  · simp only [if_true] at hmm
    rw [hsz, hmm] at hcell
    unfold maxLen at hm
    have hone : ∀ i, i < len → ∃ raw x, E.R W (fun _ => False) raw x ∧ ∀ j, j < E.sz → W.cell? ((a.add (i * E.sz)).add j) = raw[j]? := fun i hi => by
      obtain ⟨cs', hc, ht⟩ := hcell i (by omega)
      obtain ⟨_, hlc, hat⟩ := World.cells?_some hc
      have hsm : Small (D i) e := fun k hk => hz k (by
        rw [hx]
        simp only [DataW.weights, hts]
        exact List.mem_cons_of_mem _ (List.mem_append.2 (.inl (mem_weightsAll (List.mem_map.2 ⟨i, List.mem_range.2 hi, rfl⟩) hk))))
      obtain ⟨x, hx⟩ := hel n cs' _ ht hsm
      exact ⟨cs', x, hx, fun j hj => by rw [hat j (by omega)]⟩
    obtain ⟨f, hf⟩ : ∃ f : Nat → List Value × Option α, ∀ i, i < len → ∃ x, (f i).2 = some x ∧ E.R W (fun _ => False) (f i).1 x ∧ ∀ j, j < E.sz → W.cell? ((a.add (i * E.sz)).add j) = (f i).1[j]? :=
      ⟨fun i => if h : i < len then ((hone i h).choose, some (hone i h).choose_spec.choose) else ([], none), fun i hi => by
        simp only [hi, dif_pos]
        exact ⟨_, rfl, (hone i hi).choose_spec.choose_spec⟩⟩
    have hlen : ((List.range len).filterMap (fun i => (f i).2)).length = len := by
      rw [List.length_filterMap_eq_countP, List.countP_eq_length.2, List.length_range]
      intro i hi
      obtain ⟨x, hx, _⟩ := hf i (List.mem_range.1 hi)
      simp [hx]
    have hget : ∀ i, i < len → ((List.range len).filterMap (fun i => (f i).2))[i]? = (f i).2 := by
      have key : ∀ n, n ≤ len → ∀ i, i < n → ((List.range n).filterMap (fun i => (f i).2))[i]? = (f i).2 := by
        intro n
        induction n with
        | zero => intro _ i hi; omega
        | succ n ih =>
          intro hn i hi
          obtain ⟨x, hx, _⟩ := hf n (by omega)
          have hl : ((List.range n).filterMap (fun i => (f i).2)).length = n := by
            rw [List.length_filterMap_eq_countP, List.countP_eq_length.2, List.length_range]
            intro i hi
            obtain ⟨x, hx, _⟩ := hf i (by have := List.mem_range.1 hi; omega)
            simp [hx]
          rw [List.range_succ, List.filterMap_append]
          rcases Nat.lt_or_ge i n with h | h
          · rw [List.getElem?_append_left (by omega)]; exact ih (by omega) i h
          · have : i = n := by omega
            subst this
            rw [List.getElem?_append_right (by omega), hl, Nat.sub_self]
            simp [hx]
      exact key len (Nat.le_refl _)
    refine ⟨some a, cap, (List.range len).filterMap (fun i => (f i).2), by rw [hlen]; exact hcs, ⟨by rw [hlen]; exact hl, by omega, fun i x hx => ?_⟩⟩
    have hi : i < len := by have := (List.getElem?_eq_some_iff.1 hx).1; rwa [hlen] at this
    rw [hget i hi] at hx
    obtain ⟨x', hx', hr, hc⟩ := hf i hi
    rw [hx] at hx'
    injection hx' with hx'
    subst hx'
    obtain ⟨bk, off, spot⟩ := a
    have hrl := E.len hr
    have hs : spot = none := by
      obtain ⟨x0, _, hr0, hc0⟩ := hf 0 (by omega)
      have hrl0 := E.len hr0
      have h0 := hc0 0 hs0
      rw [List.getElem?_eq_getElem (by omega), Nat.zero_mul] at h0
      have : ((⟨bk, off, spot⟩ : Addr).add 0).add 0 = ⟨bk, off, spot⟩ := by unfold Addr.add; simp
      rw [this] at h0
      exact World.cell?_spot h0
    subst hs
    have eb : ∀ o j, (⟨bk, o, none⟩ : Addr).add j = ⟨bk, o + j, none⟩ := fun o j => by unfold Addr.add; split <;> simp_all
    refine ⟨bk, off, (f i).1, rfl, ?_, fun h => h, fun j hj => ?_, hr⟩
    · have h0 := hc 0 hs0
      rw [List.getElem?_eq_getElem (by omega), eb, eb] at h0
      exact World.block_lt_of_cell? W _ h0
    · have h0 := hc j hj
      rwa [eb, eb] at h0
set_option maxRecDepth 100000 in
theorem trod_rows {H : Type} {enc : TypeId × Value → H} {W : World} {fuel : Nat} {cs : List Value} {y : DataW H × List MemPlace} (h : DataW.trod enc Try.prog W 0 (fun _ => true) true fuel 74 cs = some y) (hz : Small y.1 74) :
    ∃ A c l, cs = [.slice A l.length c] ∧ Lst RowE W (fun _ => False) A c l := by
  refine trod_list RowE Try.underlying74 cellsOf_row (by decide) (fun n cs z hn hsm => ?_) h hz
  obtain ⟨xs, n', _, hx, hl, hxs, hfl⟩ := DataW.trod_struct Try.underlying29 hn
  rw [cellsOf_row] at hl
  match cs, hl with
  | [c0, c1], _ =>
    have f0 : DataW.trod enc Try.prog W 0 (fun _ => true) true n' 22 (([c0, c1].drop 0).take (Try.prog.cellsOf 22)) = xs[0]? := hfl 0 _ rfl
    have f1 : DataW.trod enc Try.prog W 0 (fun _ => true) true n' 22 (([c0, c1].drop 1).take (Try.prog.cellsOf 22)) = xs[1]? := hfl 1 _ rfl
    rw [cellsOf_bytes] at f0 f1
    have hxl : xs.length = 2 := hxs
    match xs, hxl with
    | [y0, y1], _ =>
      have hd : z.1 = .agg [y0.1, y1.1] := by rw [hx]; rfl
      have w0 : Small y0.1 22 := fun n hn => hsm n (by rw [hd]; simp only [DataW.weights, Try.underlying29]; simp [DataW.weightsEach]; exact .inl hn)
      have w1 : Small y1.1 22 := fun n hn => hsm n (by rw [hd]; simp only [DataW.weights, Try.underlying29]; simp [DataW.weightsEach]; exact .inr hn)
      obtain ⟨A, a, k, e0, s0⟩ := trod_bytes f0 w0
      obtain ⟨B, b, x, e1, s1⟩ := trod_bytes f1 w1
      simp at e0 e1
      subst e0 e1
      exact ⟨(k, x), A, a, B, b, rfl, Bs.bsn s0, Bs.bsn s1⟩
set_option maxRecDepth 100000 in
theorem arg_rows {H : Type} {enc : TypeId × Value → H} {W : World} {b0 : Nat} {v : Value} {d : DataW H} {ps : List MemPlace}
    (hval : Value.okWide Try.prog W .any b0 74 v) (h : DataW.Trod enc Try.prog W 0 (fun _ => true) true 74 v d ps) (hz : Small d 74) :
    ∃ A c l, v = .slice A l.length c ∧ Lst RowE W (fun _ => False) A c l := by
  obtain ⟨a0, len, cap, rfl⟩ := okWide_slice Try.underlying74 hval
  obtain ⟨fuel, hf⟩ := h
  obtain ⟨A, c, l, e, hl⟩ := trod_rows hf hz
  simp [Value.cells] at e
  obtain ⟨rfl, rfl, rfl⟩ := e
  exact ⟨_, _, l, rfl, hl⟩
end Go.Proofs.Ytgbjhlkjceonpaa.Lst
/- The walks of the document's Less and twice. -/
namespace Go.Proofs.Ytgbjhlkjceonpaa.Lst
open Go.RowKit Go.Proofs.Ytgbjhlkjceonpaa.K Go.Proofs.Ytgbjhlkjceonpaa.Help Go.Proofs.Ytgbjhlkjceonpaa.Pfx Go.Proofs.Ytgbjhlkjceonpaa.Peer
set_option linter.unusedVariables false

/-- are l's bytes ahead of m's? -/
def lessB : List UInt8 → List UInt8 → Bool
  | [], [] => false
  | [], _ :: _ => true
  | _ :: _, [] => false
  | x :: l, y :: m => if x = y then lessB l m else decide (x < y)
theorem lessB_at {l m : List UInt8} {k : Nat} (h1 : k < l.length) (h2 : k < m.length) : lessB (l.drop k) (m.drop k) = if l.getD k 0 = m.getD k 0 then lessB (l.drop (k + 1)) (m.drop (k + 1)) else decide (l.getD k 0 < m.getD k 0) := by
  rw [List.drop_eq_getElem_cons h1, List.drop_eq_getElem_cons h2, lessB]
  simp [h1, h2]
theorem lessB_end {l m : List UInt8} {k : Nat} (h : k ≥ l.length ∨ k ≥ m.length) (h1 : k ≤ l.length) (h2 : k ≤ m.length) : lessB (l.drop k) (m.drop k) = decide (l.length < m.length) := by
  rcases h with h | h
  · have : k = l.length := by omega
    subst this
    rw [List.drop_length]
    rcases Nat.lt_or_ge l.length m.length with h3 | h3
    · rw [List.drop_eq_getElem_cons h3, lessB]; simp [h3]
    · rw [List.drop_of_length_le h3, lessB]; simp; omega
  · have : k = m.length := by omega
    subst this
    rw [List.drop_length]
    rcases Nat.lt_or_ge m.length l.length with h3 | h3
    · rw [List.drop_eq_getElem_cons h3, lessB]; simp; omega
    · rw [List.drop_of_length_le h3, lessB]; simp; omega
/-- a quiet callee in a quiet region that begins q draws behind w -/
theorem quiet_at {P : Program} {f : FuncId} {args : Array Value} {w : World} {q a : Nat} {v : Value} (h : Calls P f args (w.drewN (q + a)) (Quiet v (w.drewN (q + a)))) : Calls P f args (w.drewN (q + a)) fun e w'' => e = .returned v ∧ ∃ n, w'' = w.drewN (q + n) :=
  h.mono fun e w' ⟨m, h1, h2⟩ => ⟨h1, a + m, by rw [h2, World.drewN_drewN, Nat.add_assoc]⟩
def zR : RowD := ([], [])
open Classical in
/-- have two rows one key? -/
noncomputable def twiceB (l : List RowD) : Bool := decide (∃ i, i < l.length ∧ ∃ j, j < i ∧ (l.getD i zR).1 = (l.getD j zR).1)
theorem getD_get {α : Type} {l : List α} {i : Nat} (z : α) (h : i < l.length) : l[i]? = some (l.getD i z) := by
  rw [List.getD_eq_getElem?_getD, List.getElem?_eq_getElem h]; rfl
end Go.Proofs.Ytgbjhlkjceonpaa.Lst
/- The walks of the document's layPeer and layLane: an element at its place. -/
namespace Go.Proofs.Ytgbjhlkjceonpaa.Lst
open Go.RowKit Go.Proofs.Ytgbjhlkjceonpaa.K Go.Proofs.Ytgbjhlkjceonpaa.Help Go.Proofs.Ytgbjhlkjceonpaa.Pfx Go.Proofs.Ytgbjhlkjceonpaa.Peer
set_option linter.unusedVariables false

theorem lane_key {w : World} {N : Nat → Prop} {A : Option Addr} {n a : Nat} {rest : List Value} {d : LaneD} (h : LaneE.R w N (Value.slice A n a :: rest) d) : Bs w A a d.key ∧ LaneB d := by
  obtain ⟨A', a', e, h1, h2⟩ := h
  injection e with e1 e2
  injection e1 with e3 e4 e5
  subst e3 e5
  exact ⟨h1.1, h2⟩
theorem quiet_at0 {P : Program} {f : FuncId} {args : Array Value} {w : World} {a : Nat} {v : Value} (h : Calls P f args (w.drewN a) (Quiet v (w.drewN a))) : Calls P f args (w.drewN a) fun e w'' => e = .returned v ∧ ∃ n, w'' = w.drewN n :=
  h.mono fun e w' ⟨m, h1, h2⟩ => ⟨h1, a + m, by rw [h2, World.drewN_drewN]⟩
/-- one round: what is laid so far, is p laid? -/
def layF {α : Type} (lt : α → α → Bool) (p : α) (s : List α × Bool) (x : α) : List α × Bool := if !s.2 && lt p x then (s.1 ++ [p, x], true) else (s.1 ++ [x], s.2)
def layG {α : Type} (lt : α → α → Bool) (l : List α) (p : α) : List α := if (l.foldl (layF lt p) ([], false)).2 then (l.foldl (layF lt p) ([], false)).1 else (l.foldl (layF lt p) ([], false)).1 ++ [p]
theorem layF_len {α : Type} (lt : α → α → Bool) (p : α) (l : List α) : ∀ s : List α × Bool, (l.foldl (layF lt p) s).1.length ≤ s.1.length + l.length + 1 ∧ (s.2 = true → (l.foldl (layF lt p) s).1.length = s.1.length + l.length) := by
  induction l with
  | nil => intro s; simp
  | cons x r ih =>
    intro s
    rw [List.foldl_cons]
    have h := ih (layF lt p s x)
    unfold layF at h ⊢
    split at h
    · rename_i hc
      rw [if_pos hc]
      simp only [Bool.and_eq_true, Bool.not_eq_true'] at hc
      have := h.2 rfl
      simp only [List.length_append, List.length_cons, List.length_nil] at this ⊢
      exact ⟨by omega, fun h2 => by rw [h2] at hc; exact absurd hc.1 (by decide)⟩
    · rename_i hc
      rw [if_neg hc]
      simp only [List.length_append, List.length_cons, List.length_nil] at h ⊢
      exact ⟨by omega, fun h2 => by have := h.2 h2; omega⟩
theorem lay_step {α : Type} (lt : α → α → Bool) (p z : α) (l : List α) (k : Nat) (hk : k < l.length) : (l.take (k + 1)).foldl (layF lt p) ([], false) = layF lt p ((l.take k).foldl (layF lt p) ([], false)) (l.getD k z) := by
  rw [List.take_succ_eq_append_getElem hk, List.foldl_append]
  simp [hk]
theorem layF_yes {α : Type} {lt : α → α → Bool} {p x : α} {M : List α} (h : lt p x = true) : layF lt p (M, false) x = (M ++ [p, x], true) := by simp [layF, h]
theorem layF_no {α : Type} {lt : α → α → Bool} {p x : α} {M : List α} {b : Bool} (h : b = true ∨ lt p x = false) : layF lt p (M, b) x = (M ++ [x], b) := by
  rcases h with h | h
  · subst h; simp [layF]
  · simp [layF, h]
/-- new memory that holds such a list -/
def RetL {α : Type} (E : Elem α) (w : World) (l : List α) (e : Ending) (w' : World) : Prop := ∃ A c, e = .returned (.slice A l.length c) ∧ Lst E w' (fun _ => False) A c l ∧ Below w.heap.size w w'
/-- an old element may be appended -/
theorem old_el {α : Type} {E : Elem α} {t : TypeId} {w W W2 : World} {B : Nat} {v : Value} {M : List α} {raw : List Value} {x : α} (h : E.R w (fun _ => False) raw x) (hb : Below w.heap.size w W) (ho : OwnL E t W2 (fun _ => False) B v M) (hB : w.heap.size ≤ B) :
    E.R W (fun k => (fun _ => False) k ∨ v.ownBlock = some k) raw x :=
  E.reno (E.below (E.reno (N' := fun i => w.heap.size ≤ i) h (fun i hi => .inr hi)) hb) (fun i hi => .inl (hi.elim False.elim (fun h => Nat.le_trans hB (ho.base_le h))))

def ltP (a b : PeerD) : Bool := decide (a.link < b.link)
def ltL (a b : LaneD) : Bool := lessB a.key b.key
end Go.Proofs.Ytgbjhlkjceonpaa.Lst
/- The walks of the document's SameAddr, SamePrefix, shares and whole. -/
namespace Go.Proofs.Ytgbjhlkjceonpaa.Lst
open Go.RowKit Go.Proofs.Ytgbjhlkjceonpaa.K Go.Proofs.Ytgbjhlkjceonpaa.Help Go.Proofs.Ytgbjhlkjceonpaa.Pfx Go.Proofs.Ytgbjhlkjceonpaa.Peer
set_option linter.unusedVariables false

/-- w's memory stands as it stood -/
def Since (w W : World) : Prop := Below w.heap.size w W
theorem Since.step {w : World} : ∀ W W' : World, Since w W → Below W.heap.size W W' → Since w W' := fun _ _ h hb => below_step h hb
theorem Since.refl (w : World) : Since w w := Below.refl _ _
theorem Since.drew {w W : World} (h : Below w.heap.size w W) : Since w (W.drewN 1) := below_drewN h 1
instance {w : World} : Nonempty (Cls (Since w)) := ⟨⟨w, Since.refl w⟩⟩
theorem Since.cell {w : World} {b o : Nat} {v : Value} (h : w.cell? ⟨b, o, none⟩ = some v) (hb : b < w.heap.size) : ∀ p : Cls (Since w), p.W.cell? ⟨b, o, none⟩ = some v := fun p => (Below.cell (p := ⟨b, o, none⟩) p.ok hb).trans h
theorem Since.bytes {w : World} {A B : Option Addr} {c d : Nat} {l m : List UInt8} (h1 : Bs w A c l) (h2 : Bs w B d m) : ∀ p : Cls (Since w), Calls Try.prog 42 #[.slice A l.length c, .slice B m.length d] p.W (Pure p.W (.bool (decide (l = m)))) :=
  fun p => (sameBytes A B c d l m p.W (h1.below p.ok) (h2.below p.ok)).mono fun _ _ h => quiet_pure h

set_option maxRecDepth 100000 in
set_option maxHeartbeats 1000000 in
theorem sameAddr_any (f1 f2 : Int) (h1 l1 h2 l2 : Nat) (w : World) :
    Calls Try.prog 107 #[.agg #[.int .i64 f1, .int .u64 (h1 : Int), .int .u64 (l1 : Int)], .agg #[.int .i64 f2, .int .u64 (h2 : Int), .int .u64 (l2 : Int)]] w (Pure w (.bool (decide (f1 = f2 ∧ h1 = h2 ∧ l1 = l2)))) := by
  have hB := Lib.hid (below_alloc (below_alloc (Below.refl w.heap.size w) (.cells #[.int .i64 f1, .int .u64 (h1 : Int), .int .u64 (l1 : Int)] 107)) (.cells #[.int .i64 f2, .int .u64 (h2 : Int), .int .u64 (l2 : Int)] 107))
  by_cases g1 : f1 = f2
  · by_cases g2 : h1 = h2
    · by_cases g3 : l1 = l2
      · rw [decide_eq_true (show f1 = f2 ∧ h1 = h2 ∧ l1 = l2 from ⟨g1, g2, g3⟩)]
        subst g1 g2 g3
        exact sameAddr_self f1 h1 l1 w
      · rw [decide_eq_false (show ¬ (f1 = f2 ∧ h1 = h2 ∧ l1 = l2) from fun h => g3 h.2.2)]
        have e3 : ((l1 : Int) == l2) = false := by rw [beq_eq_false_iff_ne]; omega
        subst g1 g2
        clear g3
        go_enter Try.func107, Try.ntmps107
        go_wp2_with fail
        try go_quiet (fail)
        go_wp2_with fail
        go_ret
        exact ⟨rfl, by first | exact hB.out | exact below_drewN hB.out _⟩
    · rw [decide_eq_false (show ¬ (f1 = f2 ∧ h1 = h2 ∧ l1 = l2) from fun h => g2 h.2.1)]
      have e2 : ((h1 : Int) == h2) = false := by rw [beq_eq_false_iff_ne]; omega
      subst g1
      clear g2
      go_enter Try.func107, Try.ntmps107
      go_wp2_with fail
      try go_quiet (fail)
      go_wp2_with fail
      go_ret
      exact ⟨rfl, by first | exact hB.out | exact below_drewN hB.out _⟩
  · rw [decide_eq_false (show ¬ (f1 = f2 ∧ h1 = h2 ∧ l1 = l2) from fun h => g1 h.1)]
    have e1 : (f1 == f2) = false := by rw [beq_eq_false_iff_ne]; exact g1
    clear g1
    go_enter Try.func107, Try.ntmps107
    go_wp2_with fail
    try go_quiet (fail)
    go_wp2_with fail
    go_ret
    exact ⟨rfl, by first | exact hB.out | exact below_drewN hB.out _⟩
set_option maxRecDepth 100000 in
set_option maxHeartbeats 1000000 in
theorem samePrefix_any (x y : PfxI) (w : World) :
    Calls Try.prog 94 #[.agg #[.int .i64 x.1, .int .u64 (x.2.1 : Int), .int .u64 (x.2.2.1 : Int), .int .i64 x.2.2.2], .agg #[.int .i64 y.1, .int .u64 (y.2.1 : Int), .int .u64 (y.2.2.1 : Int), .int .i64 y.2.2.2]] w (Pure w (.bool (decide (x = y)))) := by
  obtain ⟨f1, h1, l1, b1⟩ := x
  obtain ⟨f2, h2, l2, b2⟩ := y
  dsimp only
  have V := Lib.hid (fun W => sameAddr_any f1 f2 h1 l1 h2 l2 W)
  have H0 := Lib.hid (TwoC.start 109 109 w #[.int .i64 f1, .int .u64 (h1 : Int), .int .u64 (l1 : Int), .int .i64 b1] #[.int .i64 f2, .int .u64 (h2 : Int), .int .u64 (l2 : Int), .int .i64 b2])
  obtain ⟨t, ht⟩ : ∃ t, decide ((f1, h1, l1, b1) = (f2, h2, l2, b2)) = t := ⟨_, rfl⟩
  rw [ht]
  have e0 : (decide (f1 = f2 ∧ h1 = h2 ∧ l1 = l2) && (b1 == b2)) = t := by
    rw [← ht, Bool.eq_iff_iff]
    simp [Prod.mk.injEq, and_assoc]
  have HT := Lib.hid e0
  clear ht e0
  generalize decide (f1 = f2 ∧ h1 = h2 ∧ l1 = l2) = s at *
  cases s
  all_goals
    go_enter Try.func94, Try.ntmps94
    go_wp2_with fail
    refine (V.out _).mono ?_
    rintro e w1 ⟨rfl, hb1⟩
    have a3 : w1.cell? ⟨w.heap.size, 3, none⟩ = some (.int .i64 b1) := (blk_cell ((hb1.block _ (blk_lt H0.out.a)).trans H0.out.a) 3).trans rfl
    have b3 : w1.cell? ⟨w.heap.size + 1, 3, none⟩ = some (.int .i64 b2) := (blk_cell ((hb1.block _ (blk_lt H0.out.b)).trans H0.out.b) 3).trans rfl
    have B1 := Lib.hid (below_step H0.out.below hb1)
    clear hb1
    go_wp2_with fail
    try go_quiet (fail)
    go_wp2_with fail
    go_ret
    refine ⟨ret_bool ?_, by first | exact B1.out | exact below_drewN B1.out _⟩
    rw [← HT.out]
    first | rfl | simp
def sharesB (a b : List PfxI) : Bool := decide (∃ x, x ∈ a ∧ x ∈ b)
theorem Ps.el {w : World} {B : Option Addr} {b : Nat} {l : List PfxI} (h : Ps w B b l) (i : Nat) (hi : i < l.length) : ∃ bk off, B = some ⟨bk, off, none⟩ ∧ bk < w.heap.size ∧ w.cell? ⟨bk, off + i * 4, none⟩ = some (.int .i64 (l.getD i zP).1)
    ∧ w.cell? ⟨bk, off + i * 4 + 1, none⟩ = some (.int .u64 ((l.getD i zP).2.1 : Int)) ∧ w.cell? ⟨bk, off + i * 4 + 2, none⟩ = some (.int .u64 ((l.getD i zP).2.2.1 : Int)) ∧ w.cell? ⟨bk, off + i * 4 + 3, none⟩ = some (.int .i64 (l.getD i zP).2.2.2) := h.at_ i hi
theorem mem_getD {α : Type} {l : List α} {i : Nat} (z : α) (h : i < l.length) : l.getD i z ∈ l := by
  rw [List.getD_eq_getElem?_getD, List.getElem?_eq_getElem h]; exact List.getElem_mem h
theorem getD_mem {α : Type} {l : List α} {x : α} (z : α) (h : x ∈ l) : ∃ i, i < l.length ∧ l.getD i z = x := by
  obtain ⟨i, hi, rfl⟩ := List.mem_iff_getElem.1 h
  exact ⟨i, hi, by rw [List.getD_eq_getElem?_getD, List.getElem?_eq_getElem hi]; rfl⟩
end Go.Proofs.Ytgbjhlkjceonpaa.Lst
/- The walk of the document's whole. -/
namespace Go.Proofs.Ytgbjhlkjceonpaa.Lst
open Go.RowKit Go.Proofs.Ytgbjhlkjceonpaa.K Go.Proofs.Ytgbjhlkjceonpaa.Help Go.Proofs.Ytgbjhlkjceonpaa.Pfx Go.Proofs.Ytgbjhlkjceonpaa.Peer
set_option linter.unusedVariables false

/-- peer i has a lane -/
def hasLane (ps : List PeerD) (ls : List LaneD) (i : Nat) : Prop := ∃ j, j < ls.length ∧ (ls.getD j zeroLane).key = (ps.getD i zeroPeer).key
/-- peers j and i may stand beside one another -/
def apart (ps : List PeerD) (j i : Nat) : Prop := (ps.getD j zeroPeer).key ≠ (ps.getD i zeroPeer).key ∧ sharesB (ps.getD j zeroPeer).ps (ps.getD i zeroPeer).ps = false
def wholeTo (ps : List PeerD) (ls : List LaneD) (n : Nat) : Prop := ∀ i, i < n → hasLane ps ls i ∧ ∀ j, j < i → apart ps j i
open Classical in
noncomputable def wholeB (ps : List PeerD) (ls : List LaneD) : Bool := decide (ps.length ≤ 16 ∧ ls.length ≤ 32 ∧ wholeTo ps ls ps.length)
theorem whole_no {ps : List PeerD} {ls : List LaneD} (h : ¬ (ps.length ≤ 16 ∧ ls.length ≤ 32 ∧ wholeTo ps ls ps.length)) : wholeB ps ls = false := by unfold wholeB; simpa using h
theorem whole_yes {ps : List PeerD} {ls : List LaneD} (h : ps.length ≤ 16 ∧ ls.length ≤ 32 ∧ wholeTo ps ls ps.length) : wholeB ps ls = true := by unfold wholeB; simpa using h
/-- has one of the first j lanes peer p's key? -/
def laneTo (ps : List PeerD) (ls : List LaneD) (p j : Nat) (b : Bool) : Prop := b = true ↔ ∃ j', j' < j ∧ (ls.getD j' zeroLane).key = (ps.getD p zeroPeer).key
end Go.Proofs.Ytgbjhlkjceonpaa.Lst
/- The walks of SamePeers, SameLanes (the same data) and Rows. -/
namespace Go.Proofs.Ytgbjhlkjceonpaa.Lst
open Go.RowKit Go.Proofs.Ytgbjhlkjceonpaa.K Go.Proofs.Ytgbjhlkjceonpaa.Help Go.Proofs.Ytgbjhlkjceonpaa.Pfx Go.Proofs.Ytgbjhlkjceonpaa.Peer
set_option linter.unusedVariables false

/-- new bytes may be appended to whatever row stood before -/
theorem new_row {w W W2 : World} {v : Value} {A B : Option Addr} {a b : Nat} {x : RowD} {N : Nat → Prop} (h1 : Bs W2 A a x.1) (h2 : Bs W2 B b x.2) (n1 : Nw W A) (n2 : Nw W B) (hv : ∀ k, N k → k < W.heap.size) :
    RowE.R W2 N [.slice A x.1.length a, .slice B x.2.length b] x := ⟨A, a, B, b, rfl, Bs.fresh h1 n1 hv, Bs.fresh h2 n2 hv⟩
end Go.Proofs.Ytgbjhlkjceonpaa.Lst
/- The walk of the document's State. -/
namespace Go.Proofs.Ytgbjhlkjceonpaa.Lst
open Go.RowKit Go.Proofs.Ytgbjhlkjceonpaa.K Go.Proofs.Ytgbjhlkjceonpaa.Help Go.Proofs.Ytgbjhlkjceonpaa.Pfx Go.Proofs.Ytgbjhlkjceonpaa.Peer
set_option linter.unusedVariables false

/-- what GetBoots tells -/
def bootsGet (k v : List UInt8) : Int × Int := if (putBoots (Help.asInt (rdAt v 0 8))).2.2 = 0 ∧ (putBoots (Help.asInt (rdAt v 0 8))).1 = k ∧ (putBoots (Help.asInt (rdAt v 0 8))).2.1 = v then (Help.asInt (rdAt v 0 8), 0) else (0, 114)
theorem readAs_boots (k v : List UInt8) : readAs (putBoots (Help.asInt (rdAt v 0 8))) k v (.int .i64 (Help.asInt (rdAt v 0 8))) (.int .i64 0) = .tuple #[.int .i64 (bootsGet k v).1, .int .i64 (bootsGet k v).2] := by
  unfold readAs bootsGet
  split <;> rfl
abbrev StD := List PeerD × List LaneD × Int × Bool
noncomputable def stepS (s : StD) (r : RowD) : StD :=
  if (peerGet r.1 r.2).2 = 0 then (layG ltP s.1 (peerGet r.1 r.2).1, s.2.1, s.2.2.1, s.2.2.2)
  else if (laneGet r.1 r.2).2 = 0 then (s.1, layG ltL s.2.1 (laneGet r.1 r.2).1, s.2.2.1, s.2.2.2)
  else if (bootsGet r.1 r.2).2 = 0 then (s.1, s.2.1, (bootsGet r.1 r.2).1, s.2.2.2)
  else (s.1, s.2.1, s.2.2.1, false)
noncomputable def foldS (l : List RowD) : StD := l.foldl stepS ([], [], 0, !twiceB l)
abbrev AnsD := List PeerD × List LaneD × Int × Int
/-- what the document's State answers -/
noncomputable def refState (l : List RowD) : AnsD := if ((foldS l).2.2.2 && wholeB (foldS l).1 (foldS l).2.1) = true then ((foldS l).1, (foldS l).2.1, (foldS l).2.2.1, 0) else ([], [], 0, 114)
def RetS (w : World) (r : AnsD) (e : Ending) (w' : World) : Prop :=
  ∃ A a B b, e = .returned (.tuple #[.slice A r.1.length a, .slice B r.2.1.length b, .int .i64 r.2.2.1, .int .i64 r.2.2.2]) ∧ Lst PeerE w' (fun _ => False) A a r.1 ∧ Lst LaneE w' (fun _ => False) B b r.2.1 ∧ Below w.heap.size w w'
theorem layG_len {α : Type} (lt : α → α → Bool) (l : List α) (p : α) : (layG lt l p).length = l.length + 1 := by
  have h := layF_len lt p l ([], false)
  have h2 : (l.foldl (layF lt p) ([], false)).2 = true → (l.foldl (layF lt p) ([], false)).1.length = l.length + 1 := by
    have key : ∀ (l : List α) (s : List α × Bool), s.2 = false → ((l.foldl (layF lt p) s).2 = true → (l.foldl (layF lt p) s).1.length = s.1.length + l.length + 1) ∧ ((l.foldl (layF lt p) s).2 = false → (l.foldl (layF lt p) s).1.length = s.1.length + l.length) := by
      intro l
      induction l with
      | nil => intro s hs; exact ⟨(fun h => by rw [List.foldl_nil, hs] at h; cases h), fun _ => by simp⟩
      | cons x r ih =>
        intro s hs
        rw [List.foldl_cons]
        by_cases hc : lt p x = true
        · have e : layF lt p s x = (s.1 ++ [p, x], true) := by simp [layF, hs, hc]
          rw [e]
          have hl := (layF_len lt p r (s.1 ++ [p, x], true)).2 rfl
          have ht : ∀ (r : List α) (s : List α × Bool), s.2 = true → (r.foldl (layF lt p) s).2 = true := by
            intro r
            induction r with
            | nil => intro s h; exact h
            | cons y r ih2 => intro s h; rw [List.foldl_cons]; exact ih2 _ (by simp [layF, h])
          exact ⟨(fun _ => by rw [hl]; simp; omega), fun h => by rw [ht r _ rfl] at h; cases h⟩
        · have e : layF lt p s x = (s.1 ++ [x], s.2) := by simp [layF, hc]
          rw [e]
          obtain ⟨h1, h2⟩ := ih (s.1 ++ [x], s.2) hs
          exact ⟨(fun h => by rw [h1 h]; simp; omega), fun h => by rw [h2 h]; simp; omega⟩
    intro h
    have := (key l ([], false) rfl).1 h
    simpa using this
  have h3 : (l.foldl (layF lt p) ([], false)).2 = false → (l.foldl (layF lt p) ([], false)).1.length = l.length := by
    have key : ∀ (l : List α) (s : List α × Bool), (l.foldl (layF lt p) s).2 = false → (l.foldl (layF lt p) s).1.length = s.1.length + l.length := by
      intro l
      induction l with
      | nil => intro s _; simp
      | cons x r ih =>
        intro s hf
        rw [List.foldl_cons] at hf ⊢
        have ht : ∀ (r : List α) (s : List α × Bool), s.2 = true → (r.foldl (layF lt p) s).2 = true := by
          intro r
          induction r with
          | nil => intro s h; exact h
          | cons y r ih2 => intro s h; rw [List.foldl_cons]; exact ih2 _ (by simp [layF, h])
        have hx : (layF lt p s x).1 = s.1 ++ [x] := by
          unfold layF
          split
          · rename_i hc
            have : (layF lt p s x).2 = true := by unfold layF; rw [if_pos hc]
            rw [ht r _ this] at hf; cases hf
          · rfl
        rw [ih _ hf, hx]; simp; omega
    intro h
    have := key l ([], false) h
    simpa using this
  unfold layG
  by_cases hb : (l.foldl (layF lt p) ([], false)).2 = true
  · rw [if_pos hb, h2 hb]
  · rw [if_neg hb]
    have := h3 (by simpa using hb)
    simp [this]
theorem foldS_step (l : List RowD) (s : StD) (k : Nat) (hk : k < l.length) : (l.take (k + 1)).foldl stepS s = stepS ((l.take k).foldl stepS s) (l.getD k zR) := by
  rw [List.take_succ_eq_append_getElem hk, List.foldl_append]
  simp [hk]
theorem peer_rr {w : World} {A B : Option Addr} {a b : Nat} {x : PeerD} (h1 : Bs w A a x.key) (h2 : Ps w B b x.ps) : PeerE.R w (fun _ => False) [Value.int .i64 x.link, .slice A x.key.length a, .slice B x.ps.length b] x := ⟨A, a, B, b, rfl, Bs.bsn h1, Ps.psn h2⟩
theorem lane_rr {w : World} {A : Option Addr} {a : Nat} {x : LaneD} (h1 : Bs w A a x.key) (h2 : LaneB x) : LaneE.R w (fun _ => False) [Value.slice A x.key.length a, .int .i64 x.side, .int .i64 x.cur, .int .i64 x.next, .int .u64 (x.sc : Int), .int .u64 (x.ceil : Int), .int .i64 x.sec, .int .i64 x.nano] x := ⟨A, a, rfl, Bs.bsn h1, h2⟩
theorem laneGet_b (k v : List UInt8) : LaneB (laneGet k v).1 := by
  unfold laneGet
  split
  · exact laneRd_b k v
  · exact ⟨by simp [zeroLane], by simp [zeroLane], by simp [zeroLane]⟩
end Go.Proofs.Ytgbjhlkjceonpaa.Lst
/- The walks of the library's Contains and ContainsFunc, as sound asks them, and of sound's two closures. -/
namespace Go.Proofs.Ytgbjhlkjceonpaa.Lst
open Go.RowKit Go.Proofs.Ytgbjhlkjceonpaa.K Go.Proofs.Ytgbjhlkjceonpaa.Help Go.Proofs.Ytgbjhlkjceonpaa.Pfx Go.Proofs.Ytgbjhlkjceonpaa.Peer
set_option linter.unusedVariables false

/-- an index is answered: at least 0 just where b -/
def IdxR (w : World) (b : Bool) (e : Ending) (w' : World) : Prop := ∃ r : Int, e = .returned (.int .i64 r) ∧ decide (0 ≤ r) = b ∧ Below w.heap.size w w'
def pagg (x : PfxI) : Value := .agg #[.int .i64 x.1, .int .u64 (x.2.1 : Int), .int .u64 (x.2.2.1 : Int), .int .i64 x.2.2.2]
end Go.Proofs.Ytgbjhlkjceonpaa.Lst
/- The walks of Contains, of sound's closures, and of ContainsFunc with them. -/
namespace Go.Proofs.Ytgbjhlkjceonpaa.Lst
open Go.RowKit Go.Proofs.Ytgbjhlkjceonpaa.K Go.Proofs.Ytgbjhlkjceonpaa.Help Go.Proofs.Ytgbjhlkjceonpaa.Pfx Go.Proofs.Ytgbjhlkjceonpaa.Peer
set_option linter.unusedVariables false

/-- the box of a peer that a closure has taken -/
def Taken (W : World) (g : Nat) (d : PeerD) : Prop := ∃ A a B b, PBox W g d.link A d.key.length a B d.ps.length b ∧ Bs W A a d.key ∧ Ps W B b d.ps
theorem Taken.below {W W2 : World} {g : Nat} {d : PeerD} (h : Taken W g d) (hb : Below W.heap.size W W2) : Taken W2 g d := by
  obtain ⟨A, a, B, b, h1, h2, h3⟩ := h
  exact ⟨A, a, B, b, h1.below hb, h2.below hb, h3.below hb⟩
end Go.Proofs.Ytgbjhlkjceonpaa.Lst
/- The walk of sound. -/
namespace Go.Proofs.Ytgbjhlkjceonpaa.Lst
open Go.RowKit Go.Proofs.Ytgbjhlkjceonpaa.K Go.Proofs.Ytgbjhlkjceonpaa.Help Go.Proofs.Ytgbjhlkjceonpaa.Pfx Go.Proofs.Ytgbjhlkjceonpaa.Peer
set_option linter.unusedVariables false

/-- where both are false -/
def ImpF (a b : Bool) (P : Prop) : Prop := a = false → b = false → P
def ImpT (a b : Bool) (P : Prop) : Prop := (a = true ∨ b = true) → P
theorem hasLane_iff {ps : List PeerD} {ls : List LaneD} {i : Nat} : hasLane ps ls i ↔ ∃ x, x ∈ ls ∧ x.key = (ps.getD i zeroPeer).key := by
  constructor
  · rintro ⟨j, hj, h⟩; exact ⟨_, mem_getD zeroLane hj, h⟩
  · rintro ⟨x, hx, h⟩
    obtain ⟨j, hj, e⟩ := getD_mem zeroLane hx
    exact ⟨j, hj, by rw [e]; exact h⟩
end Go.Proofs.Ytgbjhlkjceonpaa.Lst
/- A map of rows, keyed by strings. -/
namespace Go.Proofs.Ytgbjhlkjceonpaa.Lst
open Go.RowKit Go.Maps Go.Proofs.Ytgbjhlkjceonpaa.K Go.Proofs.Ytgbjhlkjceonpaa.Help Go.Proofs.Ytgbjhlkjceonpaa.Pfx Go.Proofs.Ytgbjhlkjceonpaa.Peer
set_option linter.unusedVariables false

/-- what is gathered: a key, and its value's slice -/
abbrev GRow := List UInt8 × Value
def RV (v : Value) : Option (DataW Value × List MemPlace) := some (.held v, [])
def putR (D : DataW Value) (r : GRow) : DataW Value := D.put (.string r.1) (.held r.2)
def mapD (rs : List GRow) : DataW Value := rs.foldl putR (.map [])
def hasG (rs : List GRow) (k : List UInt8) : Bool := rs.any (fun r => r.1 == k)
def lookG (rs : List GRow) (k : List UInt8) : Value := match rs.find? (fun r => r.1 == k) with | some r => r.2 | none => .slice none 0 0
theorem mapD_snoc (rs : List GRow) (r : GRow) : mapD (rs ++ [r]) = (mapD rs).put (.string r.1) (.held r.2) := by simp [mapD, putR, List.foldl_append]
theorem fold_is : ∀ (rs : List GRow) (D : DataW Value), IsMap D → IsMap (rs.foldl putR D)
  | [], _, h => h
  | r :: t, D, h => fold_is t (putR D r) (h.put _ _)
theorem mapD_is (rs : List GRow) : IsMap (mapD rs) := fold_is rs _ isMap_empty
theorem fold_has (k : List UInt8) : ∀ (rs : List GRow) (D : DataW Value), IsMap D → has (rs.foldl putR D) (.string k) = (has D (.string k) || hasG rs k)
  | [], D, _ => by simp [hasG]
  | r :: t, D, h => by
    have e0 : IsMap (putR D r) := h.put _ _
    rw [List.foldl_cons, fold_has k t _ e0]
    unfold hasG putR
    rw [List.any_cons]
    by_cases e : r.1 = k
    · subst e
      rw [has_put_same h (k := .string r.1) (by simp [WideAt.IsKeyLit])]
      simp
    · rw [has_put_other (by intro h; injection h with h; exact e h.symm)]
      have : (r.1 == k) = false := by simpa using e
      rw [this, Bool.false_or]
theorem mapD_has (rs : List GRow) (k : List UInt8) : has (mapD rs) (.string k) = hasG rs k := by
  unfold mapD
  rw [fold_has k rs _ isMap_empty]
  rfl
theorem hasG_false {rs : List GRow} {k : List UInt8} : hasG rs k = false ↔ k ∉ rs.map Prod.fst := by
  unfold hasG
  rw [List.any_eq_false]
  simp only [List.mem_map, not_exists, not_and, beq_iff_eq]
theorem hasG_true {rs : List GRow} {k : List UInt8} : hasG rs k = true ↔ k ∈ rs.map Prod.fst := by
  have := hasG_false (rs := rs) (k := k)
  cases h : hasG rs k
  · rw [h] at this; simp at this ⊢; intro x; exact this x
  · rw [h] at this; simp only [Bool.true_eq_false, false_iff, Classical.not_not] at this; simpa using this
theorem fold_at (k : List UInt8) (z : DataW Value) : ∀ (rs : List GRow) (D : DataW Value), IsMap D → (rs.map Prod.fst).Nodup →
    (rs.foldl putR D).atKey (.string k) z = match rs.find? (fun r => r.1 == k) with | some r => .held r.2 | none => D.atKey (.string k) z
  | [], D, _, _ => by simp
  | r :: t, D, h, hn => by
    rw [List.map_cons, List.nodup_cons] at hn
    have e0 : IsMap (putR D r) := h.put _ _
    rw [List.foldl_cons, fold_at k z t _ e0 hn.2, List.find?_cons]
    unfold putR
    by_cases e : r.1 = k
    · subst e
      have hf : t.find? (fun x => x.1 == r.1) = none := by
        rw [List.find?_eq_none]
        intro x hx hk
        exact hn.1 (List.mem_map.2 ⟨x, hx, by simpa using hk⟩)
      rw [hf]
      simp only [beq_self_eq_true]
      rw [atKey_put_same h (k := .string r.1) (by simp [WideAt.IsKeyLit])]
    · have hb : (r.1 == k) = false := by simpa using e
      rw [hb]
      rw [atKey_put_other (by intro h; injection h with h; exact e h.symm)]
theorem mapD_at (rs : List GRow) (k : List UInt8) (hn : (rs.map Prod.fst).Nodup) : (mapD rs).atKey (.string k) (.held (.slice none 0 0)) = .held (lookG rs k) := by
  unfold mapD lookG
  rw [fold_at k _ rs _ isMap_empty hn]
  cases rs.find? (fun r => r.1 == k) <;> rfl
def GMap (w : World) (b : Nat) (rs : List GRow) : Prop := w.ownsMap Try.prog 9 RV b rs.length (mapD rs) ∧ (rs.map Prod.fst).Nodup
theorem K_str : Keyed Try.prog 9 := string_keyed u_str
theorem u_map : Try.prog.underlying 123 = some (.map 9 22) := by kernel_rfl
theorem z_bytes (w : World) : (zeroValue 22).run Try.prog w = .ok (.slice none 0 0) w := by simp [Try.zeroValue22]
theorem GMap.lt {w : World} {b : Nat} {rs : List GRow} (h : GMap w b rs) : b < w.heap.size := h.1.lt
theorem GMap.keep {w w' : World} {b : Nat} {rs : List GRow} (h : GMap w b rs) (hb : Below w.heap.size w w') : GMap w' b rs := by
  obtain ⟨⟨es, clock, hh, r⟩, hn⟩ := h
  exact ⟨⟨es, clock, (hb.block _ (blk_lt hh)).trans hh, r⟩, hn⟩
theorem GMap.only {w w' : World} {b : Nat} {rs : List GRow} {T : Nat → Prop} (h : GMap w b rs) (k : Only w w' T) (hT : ¬ T b) : GMap w' b rs := by
  obtain ⟨⟨es, clock, hh, r⟩, hn⟩ := h
  exact ⟨⟨es, clock, k.blk hh hT, r⟩, hn⟩
theorem GMap.size_le {w : World} {b : Nat} {rs : List GRow} (h : GMap w b rs) : Maps.size (mapD rs) ≤ rs.length := by
  obtain ⟨⟨es, clock, hh, F, hs, hD⟩, _⟩ := h
  rw [hD]
  simpa [Maps.size, length_sorted] using hs
theorem GMap.keys {w : World} {b : Nat} {rs : List GRow} (h : GMap w b rs) : (rs.map Prod.fst).Perm (strKeys (mapD rs)) := by
  obtain ⟨es, hD, hpw, _⟩ := h.1.entries K_str
  obtain ⟨es', hD', hko⟩ := h.1.keysOf
  rw [hD]
  obtain rfl : es = es' := by rw [hD] at hD'; simpa using hD'
  refine perm_strKeys hpw (fun p hp => by obtain ⟨v, hv⟩ := hko p hp; obtain ⟨x, _, hx, _⟩ := Maps.keyOf_str u_str hv; exact ⟨x, hx⟩) h.2 (fun x => ?_)
  rw [← hD, mapD_has, hasG_true]
section
variable {ops : Array Oper} {rest : List Oper} {o : Oper} {a : Act} {Q : Exit → Act → World → Prop} {w : World} {b : Nat} {rs : List GRow}
theorem look_ok (hg : o.guard = none) (m x : Operand) (hop : o.op = Op.lookup 123 m x true) (hm : a.eval m = .map (some b)) (h : GMap w b rs) (k : List UInt8) (hx : a.eval x = .string ⟨k.toArray⟩) (hk : k.length ≤ maxLen)
    (hK : wpList Try.prog ops Q rest (a.put o.dst (.tuple #[lookG rs k, .bool (hasG rs k)])) w) : wpList Try.prog ops Q (o :: rest) a w := by
  refine wpList_lookup_own_ok w hg m x _ hop _ _ K_str u_map RV (z_bytes w) (.held (.slice none 0 0)) [] rfl b _ _ hm h.1 _ (.string k) hx (by simpa using WideMaps.keyOf_string_mk u_str (s := ⟨k.toArray⟩) (by simpa [ByteArray.size] using hk)) (fun v ps hv => ?_)
  rw [mapD_at rs k h.2] at hv
  unfold RV at hv
  injection hv with hv
  injection hv with hv
  injection hv with hv
  rw [hv, mapD_has]
  exact hK
theorem look_v (hg : o.guard = none) (m x : Operand) (hop : o.op = Op.lookup 123 m x false) (hm : a.eval m = .map (some b)) (h : GMap w b rs) (k : List UInt8) (hx : a.eval x = .string ⟨k.toArray⟩) (hk : k.length ≤ maxLen)
    (hK : wpList Try.prog ops Q rest (a.put o.dst (lookG rs k)) w) : wpList Try.prog ops Q (o :: rest) a w := by
  refine wpList_plain hg fun K' hK' => ?_
  obtain ⟨v, ps, hrun, hv⟩ := h.1.lookup K_str u_map (z_bytes w) (zd := .held (.slice none 0 0)) (zp := []) rfl (key := .string ⟨k.toArray⟩) (kl := .string k) (by simpa using WideMaps.keyOf_string_mk u_str (s := ⟨k.toArray⟩) (by simpa [ByteArray.size] using hk))
  rw [mapD_at rs k h.2] at hv
  unfold RV at hv
  injection hv with hv
  injection hv with hv
  injection hv with hv
  subst hv
  unfold Oper.wp
  simp [execOp, hop, hm, hx, hrun, Result.andThen]
  exact hK' _ _ hK
theorem store_v (hg : o.guard = none) (m x v : Operand) (hop : o.op = Op.mapUpdate 123 m x v) (hm : a.eval m = .map (some b)) (h : GMap w b rs) (k : List UInt8) (hx : a.eval x = .string ⟨k.toArray⟩) (hk : k.length ≤ maxLen)
    (hn : rs.length ≤ 1000000) (val : Value) (hv : a.eval v = val) (hnew : hasG rs k = false)
    (hK : ∀ w', GMap w' b (rs ++ [(k, val)]) → Only w w' (fun i => i = b) → wpList Try.prog ops Q rest (a.put o.dst undef) w') : wpList Try.prog ops Q (o :: rest) a w := by
  refine wpList_mapUpdate_own w hg m x v _ hop _ _ K_str u_map RV b _ _ hm h.1 (by unfold maxLen; omega) _ val (.string k) hx hv (by simpa using WideMaps.keyOf_string_mk u_str (s := ⟨k.toArray⟩) (by simpa [ByteArray.size] using hk)) (.held val) [] rfl (fun w' hown hgr => ?_)
  refine hK w' ⟨?_, ?_⟩ ((Only.refl w _).grown hgr (fun k hk => by injection hk with hk; exact .inl hk.symm))
  · rw [mapD_snoc]; simpa using hown
  · rw [List.map_append, List.nodup_append]
    refine ⟨h.2, by simp, fun x hx y hy e => ?_⟩
    simp at hy
    subst hy; subst e
    exact (hasG_false.1 hnew) (by assumption)
end
end Go.Proofs.Ytgbjhlkjceonpaa.Lst
/- The walk of take. -/
namespace Go.Proofs.Ytgbjhlkjceonpaa.Lst
open Go.RowKit Go.Maps Go.Proofs.Ytgbjhlkjceonpaa.K Go.Proofs.Ytgbjhlkjceonpaa.Help Go.Proofs.Ytgbjhlkjceonpaa.Pfx Go.Proofs.Ytgbjhlkjceonpaa.Peer
set_option linter.unusedVariables false

/-- behind a row taken -/
def TookM (w : World) (b : Nat) (rs : List GRow) (k : List UInt8) (v : Value) (e : Ending) (w' : World) : Prop :=
  (hasG rs k = true ∧ e = .returned (.bool false) ∧ GMap w' b rs ∧ Only w w' (fun i => i = b)) ∨ (hasG rs k = false ∧ e = .returned (.bool true) ∧ GMap w' b (rs ++ [(k, v)]) ∧ Only w w' (fun i => i = b))
set_option maxRecDepth 100000 in
set_option maxHeartbeats 1000000 in
theorem take_any (b : Nat) (rs : List GRow) (A B : Option Addr) (a c n : Nat) (k : List UInt8) (w : World) (hg : GMap w b rs) (hk : Bs w A a k) (hn : rs.length ≤ 1000) :
    Calls Try.prog 95 #[.map (some b), .agg #[.slice A k.length a, .slice B n c]] w (TookM w b rs k (.slice B n c)) := by
  have HB := Lib.hid (below_alloc (Below.refl w.heap.size w) (.cells #[Value.slice A k.length a, .slice B n c] 29))
  have G := Lib.hid (hg.keep HB.out)
  have S := str_of A a k _ (hk.below HB.out)
  have hkl : k.length ≤ maxLen := by have h1 := hk.le; have h2 := hk.max; simp only [maxLen]; omega
  have HKL := Lib.hid hkl
  have HN := Lib.hid hn
  have X := blk_new w (.cells #[Value.slice A k.length a, .slice B n c] 29)
  have x0 := blk_cell X 0
  have x1 := blk_cell X 1
  simp only [List.getElem?_toArray, List.getElem?_cons_zero, List.getElem?_cons_succ] at x0 x1
  have HO : Hid (Only w (w.alloc (.cells #[Value.slice A k.length a, .slice B n c] 29)) (fun i => i = b)) := Lib.hid (Only.of_below HB.out _)
  clear hg hk hkl hn HB X
  rcases hh : hasG rs k with _ | _
  · have HH := Lib.hid hh
    clear hh
    go_enter Try.func95, Try.ntmps95
    go_wp2_with (first
      | (at_lookup; refine look_ok rfl _ _ rfl rfl G.out k rfl HKL.out ?_; rw [HH.out])
      | (at_mapUpdate; refine store_v rfl _ _ _ rfl rfl G.out k rfl HKL.out (by have := HN.out; omega) _ rfl HH.out ?_; intro w1 g1 k1)
      | go_in)
    go_ret
    exact .inr ⟨HH.out, rfl, g1, HO.out.then_ k1 (fun i h => .inl h)⟩
  · have HH := Lib.hid hh
    clear hh
    go_enter Try.func95, Try.ntmps95
    go_wp2_with (first
      | (at_lookup; refine look_ok rfl _ _ rfl rfl G.out k rfl HKL.out ?_; rw [HH.out])
      | go_in)
    go_ret
    exact .inl ⟨HH.out, rfl, G.out, HO.out⟩
end Go.Proofs.Ytgbjhlkjceonpaa.Lst
/- The sort of strings, laid at the program; the walk of keys. -/
namespace Go.Proofs.Ytgbjhlkjceonpaa.Lst
open Go.RowKit Go.Maps Go.Sort Go.Shelf Go.Proofs.Ytgbjhlkjceonpaa.K Go.Proofs.Ytgbjhlkjceonpaa.Help Go.Proofs.Ytgbjhlkjceonpaa.Pfx Go.Proofs.Ytgbjhlkjceonpaa.Peer
set_option linter.unusedVariables false

def layS_ren : Go.Shelf.Ren := ⟨fun | 190 => 96 | 125 => 98 | 258 => 108 | 128 => 117 | 129 => 118 | 302 => 119 | 303 => 120 | 304 => 121 | 305 => 122 | 306 => 123 | 307 => 124 | 308 => 125 | 309 => 126 | 310 => 127 | 333 => 133 | 329 => 129 | 330 => 130 | 334 => 134 | 335 => 135 | 336 => 136 | 344 => 138 | n => n, fun | 31 => 126 | 9 => 9 | 3 => 3 | 46 => 135 | 0 => 0 | 51 => 81 | 53 => 23 | 4 => 4 | 183 => 163 | 182 => 162 | 131 => 167 | 5 => 5 | 218 => 177 | 222 => 181 | 228 => 186 | 229 => 50 | n => n, fun | n => n⟩
theorem layS : Go.Proofs.Lays.n190 Try.prog layS_ren := {
  mixed := by kernel_rfl
  f125 := Try.func98.trans (congrArg some (by kernel_rfl))
  f128 := Try.func117.trans (congrArg some (by kernel_rfl))
  f129 := Try.func118.trans (congrArg some (by kernel_rfl))
  f190 := Try.func96.trans (congrArg some (by kernel_rfl))
  f258 := Try.func108.trans (congrArg some (by kernel_rfl))
  f302 := Try.func119.trans (congrArg some (by kernel_rfl))
  f303 := Try.func120.trans (congrArg some (by kernel_rfl))
  f304 := Try.func121.trans (congrArg some (by kernel_rfl))
  f305 := Try.func122.trans (congrArg some (by kernel_rfl))
  f306 := Try.func123.trans (congrArg some (by kernel_rfl))
  f307 := Try.func124.trans (congrArg some (by kernel_rfl))
  f308 := Try.func125.trans (congrArg some (by kernel_rfl))
  f309 := Try.func126.trans (congrArg some (by kernel_rfl))
  f310 := Try.func127.trans (congrArg some (by kernel_rfl))
  f329 := Try.func129.trans (congrArg some (by kernel_rfl))
  f330 := Try.func130.trans (congrArg some (by kernel_rfl))
  f333 := Try.func133.trans (congrArg some (by kernel_rfl))
  f334 := Try.func134.trans (congrArg some (by kernel_rfl))
  f335 := Try.func135.trans (congrArg some (by kernel_rfl))
  f336 := Try.func136.trans (congrArg some (by kernel_rfl))
  f344 := Try.func138.trans (congrArg some (by kernel_rfl))
  t0 := Try.underlying0
  a0 := Try.isAgg0
  z0 := Try.sizeOf0
  v0 := Try.zeroValue0
  t3 := Try.underlying3
  a3 := Try.isAgg3
  z3 := Try.sizeOf3
  v3 := Try.zeroValue3
  t4 := Try.underlying4
  a4 := Try.isAgg4
  z4 := Try.sizeOf4
  v4 := Try.zeroValue4
  t5 := Try.underlying5
  a5 := Try.isAgg5
  z5 := Try.sizeOf5
  v5 := Try.zeroValue5
  t9 := Try.underlying9
  a9 := Try.isAgg9
  z9 := Try.sizeOf9
  v9 := Try.zeroValue9
  t31 := Try.underlying126
  a31 := Try.isAgg126
  z31 := Try.sizeOf126
  v31 := Try.zeroValue126
  t46 := Try.underlying135
  a46 := Try.isAgg135
  z46 := Try.sizeOf135
  v46 := Try.zeroValue135
  t51 := Try.underlying81
  a51 := Try.isAgg81
  z51 := Try.sizeOf81
  v51 := Try.zeroValue81
  t53 := Try.underlying23
  a53 := Try.isAgg23
  z53 := Try.sizeOf23
  v53 := Try.zeroValue23
  t131 := Try.underlying167
  a131 := Try.isAgg167
  z131 := Try.sizeOf167
  v131 := Try.zeroValue167
  t182 := Try.underlying162
  a182 := Try.isAgg162
  z182 := Try.sizeOf162
  v182 := Try.zeroValue162
  t183 := Try.underlying163
  a183 := Try.isAgg163
  z183 := Try.sizeOf163
  v183 := Try.zeroValue163
  t218 := Try.underlying177
  a218 := Try.isAgg177
  z218 := Try.sizeOf177
  v218 := Try.zeroValue177
  t222 := Try.underlying181
  a222 := Try.isAgg181
  z222 := Try.sizeOf181
  v222 := Try.zeroValue181
  t228 := Try.underlying186
  a228 := Try.isAgg186
  z228 := Try.sizeOf186
  v228 := Try.zeroValue186
  t229 := Try.underlying50
  a229 := Try.isAgg50
  z229 := Try.sizeOf50
  v229 := Try.zeroValue50 }
def StrR (w : World) (N : Nat → Prop) (raw : List Value) (x : List UInt8) : Prop := raw = [encStr x]
def StrE : Elem (List UInt8) where
  sz := 1
  R := StrR
  len := fun h => by rw [h]; rfl
  one := fun h u hu => by
    rw [h] at hu
    simp only [List.mem_cons, List.not_mem_nil, or_false] at hu
    subst hu
    rfl
  below := fun h _ => h
  only := fun h _ _ => h
  reno := fun h _ => h
theorem info_str : (Try.prog.info? 9).map (fun i => (i.zero, i.size, i.bytes)) = some (some (.string ⟨#[]⟩), 1, 16) := by kernel_rfl
theorem own_strs {w : World} {B : Nat} {v : Value} {ss : List (List UInt8)} (h : w.ownsRow B 9 1 v ss.length (ss.map encStr)) (hm : ss.length ≤ 1000000000000) : OwnL StrE 9 w (fun _ => False) B v ss := by
  refine ⟨ss.map (fun x => [encStr x]), by simp, ?_, hm, fun i x raw hx hr => ?_⟩
  · have : (ss.map (fun x => [encStr x])).flatten = ss.map encStr := by
      clear h hm
      induction ss with
      | nil => rfl
      | cons a t ih => simp [ih]
    rw [this]
    exact h
  · rw [List.getElem?_map, hx] at hr
    simp at hr
    exact hr.symm
/-- the keys in order -/
def keysOf (rs : List GRow) : List (List UInt8) := (rs.map Prod.fst).mergeSort (fun x y => decide (x ≤ y))
set_option maxRecDepth 100000 in
set_option maxHeartbeats 1000000 in
theorem keys_nw (b : Nat) (rs : List GRow) (w : World) (hg : GMap w b rs) (hn : rs.length ≤ 1000) :
    Calls Try.prog 70 #[.map (some b)] w (fun e w' => ∃ A c, e = .returned (.slice A (keysOf rs).length c) ∧ Lst StrE w' (fun _ => False) A c (keysOf rs) ∧ Below w.heap.size w w' ∧ Nw w A) := by
  obtain ⟨i0, hi, hz⟩ := Option.map_eq_some_iff.1 info_str
  simp only [Prod.mk.injEq] at hz
  obtain ⟨hz0, hz1, hz2⟩ := hz
  have HI := Lib.hid hi
  have HZ0 := Lib.hid hz0
  have HZ1 := Lib.hid hz1
  have HZ2 := Lib.hid hz2
  clear hi hz0 hz1 hz2
  have G := Lib.hid hg
  have HN := Lib.hid hn
  have HS := Lib.hid hg.size_le
  have hbl := hg.lt
  have HBL := Lib.hid hbl
  have HK := Lib.hid hg.keys
  clear hg hn hbl
  go_enter Try.func70, Try.ntmps70
  go_wp2_with (first
    | (at_range; refine wpList_range_own _ rfl _ 123 rfl 9 22 K_str u_map _ b _ _ rfl G.out.1 ?_; intro w0 hrg0 hg0 hs0)
    | go_in)
  go_frame
  have HG0 := Lib.hid hg0
  have HRG0 := Lib.hid hrg0
  clear hg0 hrg0 hs0
  go_loopw [3] (fun v wr => ∃ (left : Lit → Bool) (cnt : Nat) (ss : List (List UInt8)), wr.ranges Try.prog 9 RV b w.heap.size rs.length (mapD rs) left cnt ∧ Hid (ss.length + cnt ≤ Maps.size (mapD rs)) ∧
      wr.ownsRow w.heap.size 9 1 v ss.length (ss.map encStr) ∧ Collected (mapD rs) left ss ∧ Below w.heap.size w wr)
    (fun _ wr => wr.rangeLeft b w.heap.size)
  case atStart =>
    exact ⟨_, _, [], HRG0.out, by simp [Hid], ⟨by simp, .inl ⟨rfl, rfl⟩⟩, Collected.start _, (Below.refl _ _).grown HG0.out (Nat.le_refl _) (fun j hj => by cases hj)⟩
  case round =>
    obtain ⟨left, cnt, ss, hrg, hcs, hrow, hC, hnx⟩ := hrel
    go_wp2_with (first
      | (at_next; refine wpList_next_ranges _ rfl _ rfl 9 K_str RV encStr (fun v : Value => v) (fun key kl hk => by obtain ⟨x, hx, _⟩ := Maps.keyOf_str u_str hk; exact ⟨x, hx⟩) (fun v y hv => ⟨v, rfl⟩) b w.heap.size _ _ _ _ rfl hrg ?_ ?_)
      | go_in)
    · intro hc0 hl0
      have hss : ss.length ≤ 1000 := by have h1 := hcs.out; have h2 := HS.out; have h3 := HN.out; omega
      have HKS : Hid (keysOf rs = ss.mergeSort (fun x y => decide (x ≤ y))) := Lib.hid (mergeSort_of_perm (HK.out.trans (hC.perm G.out.1 K_str u_str hl0).symm))
      clear hC hcs hrg hl0 hc0
      rcases hrow.2 with ⟨rfl, hnil⟩ | ⟨g, cap, cur, rfl, hbase, hb, h1, h2, h3, h4⟩
      · obtain rfl : ss = [] := List.eq_nil_of_length_eq_zero hnil
        have hc : Calls Try.prog 96 #[.slice none 0 0] wr _ := Any.slices_Sort_string_none layS none 0 wr
        clear hrow hss
        go_wp2_with fail
        refine hc.mono ?_
        rintro e w' ⟨rfl, rfl⟩
        have hks : keysOf rs = [] := by rw [HKS.out]; simp
        go_wp2_with fail
        go_ret
        exact ⟨none, 0, by rw [hks]; rfl, by rw [hks]; exact Lst.nil _ _, hnx, Nw.none _⟩
      · have hH : Holds encStr wr g 0 ss.toArray := holds_of_block hb (by simpa using h4)
        have hgl : g < wr.heap.size := (Array.getElem?_eq_some_iff.1 hb).1
        have hc : Calls Try.prog 96 #[.slice (some ⟨g, 0, none⟩) ss.length cap] wr _ := Any.slices_Sort_string layS g 0 cap ss wr hH hgl (by omega)
        clear hH hgl h4
        go_wp2_with fail
        refine hc.mono ?_
        rintro e w' ⟨rfl, nn, os, hw⟩
        have ho := ownsRow_sorted (os := os) (n := nn) (ss := ss) (ts := ss.mergeSort (fun x y => decide (x ≤ y))) (by simp) hbase hb h1 h2 h3
        rw [← hw, ← HKS.out] at ho
        have hlen : (keysOf rs).length = ss.length := by rw [HKS.out]; simp
        rw [← hlen] at ho
        have hb' := hnx.grown (grownBy_sorted (w := wr) (g := g) (n := nn) (os := os) (ss.mergeSort (fun x y => decide (x ≤ y))).toArray) hnx.size (fun j hj => by cases hj; exact hbase)
        rw [← hw] at hb'
        have HO := Lib.hid ho
        have HB := Lib.hid hb'
        have HL := Lib.hid hlen
        clear ho hb' hw hlen hbase hb h1 h2 h3 hrow hnx hc
        go_wp2_with fail
        go_ret
        have hO := own_strs HO.out (by have := HL.out; omega)
        obtain ⟨A, c, e, hl⟩ := OwnL.lst hO (fun _ _ h => h)
        rw [e] at hO
        rw [← HL.out]
        exact ⟨A, c, congrArg Ending.returned e, hl, HB.out, hO.nw (Nat.le_refl _)⟩
    · intro x c kl yd yp w2 cnt2 hkey hlk hv hat hrg2 hlt hg2 hs2 hen
      obtain ⟨x', ex, rfl, _⟩ := Maps.keyOf_str u_str hkey
      obtain rfl : x = x' := encStr_inj ex
      have hrow2 := hrow.kept hg2 (Or.inr (row_ne_iter hrow hrg).symm)
      have HC := Lib.hid hcs.out
      have HLT := Lib.hid hlt
      have HX := Lib.hid hnx
      have HG2 := Lib.hid hg2
      have HRG2 := Lib.hid hrg2
      have HRG := Lib.hid hrg
      have HCC := Lib.hid hC
      have HLK := Lib.hid hlk
      have HAT := Lib.hid hat
      have HR2 := Lib.hid hrow2
      have hb1 : ss.length + 1 ≤ 1001 := by have h1 := hcs.out; have h2 := HS.out; have h3 := HN.out; omega
      have HB1 := Lib.hid hb1
      clear hs2 hcs hlt hnx hg2 hrg2 hrg hC hlk hat hrow2 hrow hb1 hkey hv ex
      go_wp2_with (first
        | (at_builtin; refine wpList_append_own _ rfl _ _ 126 rfl w.heap.size 9 i0 (.string ⟨#[]⟩) 1 16 Try.underlying126 HI.out HZ0.out HZ1.out HZ2.out rfl (by decide) _ _ _ rfl (HR2.out.alloc _) ⟨w2.heap.size, 0, none⟩ 1 1 [encStr x] rfl rfl (cell_one_new _ _ _) (by simp [Value.oneCell', encStr]) (by have := HB1.out; simp only [maxLen]; omega) (by have := HB1.out; omega) (by have := HX.out.size; have := HG2.out.size; simp; omega) ?_; intro v' w3 hown' hg3 hnil3; go_frame)
        | go_in)
      have hrg3 := (HRG2.out.alloc _).kept hg3 (row_ne_low HR2.out HBL.out) (row_ne_iter HR2.out HRG2.out)
      go_roundw
      case rel =>
        refine ⟨_, cnt2, ss ++ [x], hrg3, by have := HC.out; have := HLT.out; simp [Hid]; omega, by simpa using hown', HCC.out.step HLK.out HAT.out, ?_⟩
        exact ((HX.out.grown HG2.out HX.out.size (fun j hj => by cases hj; exact Nat.le_refl _)).alloc (by have := HX.out.size; have := HG2.out.size; omega) _).grown hg3 (by have := HX.out.size; have := HG2.out.size; simp; omega) (fun j hj => (HR2.out.lt j hj).1)
      case measure => rw [hrg3.left_eq, HRG.out.left_eq]; exact HLT.out
theorem keys_any (b : Nat) (rs : List GRow) (w : World) (hg : GMap w b rs) (hn : rs.length ≤ 1000) :
    Calls Try.prog 70 #[.map (some b)] w (fun e w' => ∃ A c, e = .returned (.slice A (keysOf rs).length c) ∧ Lst StrE w' (fun _ => False) A c (keysOf rs) ∧ Below w.heap.size w w') :=
  (keys_nw b rs w hg hn).mono fun e w' ⟨A, c, h1, h2, h3, _⟩ => ⟨A, c, h1, h2, h3⟩
end Go.Proofs.Ytgbjhlkjceonpaa.Lst
/- What the program's State answers, plain; what has been gathered; []byte(s). -/
namespace Go.Proofs.Ytgbjhlkjceonpaa.Lst
open Go.RowKit Go.Proofs.Ytgbjhlkjceonpaa.K Go.Proofs.Ytgbjhlkjceonpaa.Help Go.Proofs.Ytgbjhlkjceonpaa.Pfx Go.Proofs.Ytgbjhlkjceonpaa.Peer
set_option linter.unusedVariables false

abbrev T3 := List PeerD × List LaneD × Int
/-- one row -/
noncomputable def stepO (s : T3) (k v : List UInt8) : Option T3 :=
  match k with
  | [] => none
  | c :: _ =>
    if c = 80 then (if (peerGet k v).2 = 0 then some (s.1 ++ [(peerGet k v).1], s.2.1, s.2.2) else none)
    else if c = 76 then (if (laneGet k v).2 = 0 then some (s.1, s.2.1 ++ [(laneGet k v).1], s.2.2) else none)
    else if c = 66 then (if (bootsGet k v).2 = 0 then some (s.1, s.2.1, (bootsGet k v).1) else none)
    else none
def valOf (l : List RowD) (k : List UInt8) : List UInt8 := match l.find? (fun r => r.1 == k) with | some r => r.2 | none => []
noncomputable def stepK (l : List RowD) (s : Option T3) (k : List UInt8) : Option T3 := match s with | none => none | some s => stepO s k (valOf l k)
def keysL (l : List RowD) : List (List UInt8) := (l.map Prod.fst).mergeSort (fun x y => decide (x ≤ y))
noncomputable def foldK (l : List RowD) : Option T3 := (keysL l).foldl (stepK l) (some ([], [], 0))
noncomputable def ansK (o : Option T3) : AnsD := match o with | none => ([], [], 0, 114) | some s => if wholeB s.1 s.2.1 = true then (s.1, s.2.1, s.2.2, 0) else ([], [], 0, 114)
open Classical in
noncomputable def progState (l : List RowD) : AnsD := if (l.map Prod.fst).Nodup then ansK (foldK l) else ([], [], 0, 114)
theorem foldK_none (l : List RowD) : ∀ ks : List (List UInt8), ks.foldl (stepK l) none = none
  | [] => rfl
  | k :: t => foldK_none l t
theorem foldK_step (l : List RowD) (ks : List (List UInt8)) (s : Option T3) (j : Nat) (hj : j < ks.length) : (ks.take (j + 1)).foldl (stepK l) s = stepK l ((ks.take j).foldl (stepK l) s) (ks.getD j []) := by
  rw [List.take_succ_eq_append_getElem hj, List.foldl_append]
  simp [hj]
theorem foldK_stop (l : List RowD) (ks : List (List UInt8)) (s : Option T3) (j : Nat) (h : (ks.take j).foldl (stepK l) s = none) : ks.foldl (stepK l) s = none := by
  rw [← List.take_append_drop j ks, List.foldl_append, h, foldK_none]
/-- what has been gathered of l -/
def GOf (w : World) (l : List RowD) (rs : List GRow) : Prop := rs.length = l.length ∧ ∀ (i : Nat) (x : RowD), l[i]? = some x → ∃ B b, rs[i]? = some (x.1, .slice B x.2.length b) ∧ Bs w B b x.2
theorem GOf.nil (w : World) : GOf w [] [] := ⟨rfl, fun i x h => by simp at h⟩
theorem GOf.snoc {w : World} {l : List RowD} {rs : List GRow} (h : GOf w l rs) {x : RowD} {B : Option Addr} {b : Nat} (hb : Bs w B b x.2) : GOf w (l ++ [x]) (rs ++ [(x.1, .slice B x.2.length b)]) := by
  refine ⟨by simp [h.1], fun i y hy => ?_⟩
  by_cases hi : i < l.length
  · rw [List.getElem?_append_left hi] at hy
    obtain ⟨B', b', e, s⟩ := h.2 i y hy
    exact ⟨B', b', by rw [List.getElem?_append_left (by rw [h.1]; exact hi)]; exact e, s⟩
  · have e1 : i = l.length := by
      have := (List.getElem?_eq_some_iff.1 hy).1
      simp at this
      omega
    subst e1
    rw [List.getElem?_append_right (by omega), Nat.sub_self] at hy
    simp at hy
    subst hy
    exact ⟨B, b, by rw [← h.1]; simp, hb⟩
theorem GOf.fst {w : World} {l : List RowD} {rs : List GRow} (h : GOf w l rs) : rs.map Prod.fst = l.map Prod.fst := by
  apply List.ext_getElem?
  intro i
  rw [List.getElem?_map, List.getElem?_map]
  by_cases hi : i < l.length
  · obtain ⟨B, b, e, _⟩ := h.2 i l[i] (List.getElem?_eq_getElem hi)
    rw [e, List.getElem?_eq_getElem hi]
    rfl
  · have e1 : l[i]? = none := List.getElem?_eq_none (by omega)
    have e2 : rs[i]? = none := List.getElem?_eq_none (by rw [h.1]; omega)
    rw [e1, e2]; rfl
theorem find_pair {w : World} (k : List UInt8) : ∀ (l : List RowD) (rs : List GRow), GOf w l rs → k ∈ l.map Prod.fst → ∃ B b, lookG rs k = .slice B (valOf l k).length b ∧ Bs w B b (valOf l k)
  | [], rs, h, hk => by simp at hk
  | x :: t, rs, h, hk => by
    obtain ⟨B, b, e, s⟩ := h.2 0 x (by simp)
    match rs, h, e with
    | r :: rt, h, e =>
      simp at e
      subst e
      have ht : GOf w t rt := ⟨by have := h.1; simpa using this, fun i y hy => by simpa using h.2 (i + 1) y (by simpa using hy)⟩
      by_cases hx : x.1 = k
      · refine ⟨B, b, ?_, ?_⟩
        · simp [lookG, valOf, hx]
        · simpa [valOf, hx] using s
      · have hk2 : k ∈ t.map Prod.fst := by
          rw [List.map_cons, List.mem_cons] at hk
          exact hk.resolve_left (fun e => hx e.symm)
        obtain ⟨B', b', e', s'⟩ := find_pair k t rt ht hk2
        have hb : (x.1 == k) = false := by simpa using hx
        refine ⟨B', b', ?_, ?_⟩
        · unfold lookG valOf at e' ⊢
          rw [List.find?_cons, List.find?_cons, hb]
          exact e'
        · unfold valOf at s' ⊢
          rw [List.find?_cons, hb]
          exact s'
/-- []byte(s) -/
theorem bytes_of (w : World) (k : List UInt8) (hk : k.length ≤ 140737488355328) : ∃ cap w1, (convert 9 22 (.string ⟨k.toArray⟩)).run Try.prog w = .ok (.slice (some ⟨w.heap.size, 0, none⟩) k.length cap) w1
    ∧ Bs w1 (some ⟨w.heap.size, 0, none⟩) cap k ∧ Below w.heap.size w w1 := by
  have hrun := run_bytes_of_string (P := Try.prog) w 9 22 5 ⟨k.toArray⟩ u_str u_slice8 u_u8
  have hge := grownCap_ge w (ByteArray.size ⟨k.toArray⟩) 0 5
  have hsz : ByteArray.size ⟨k.toArray⟩ = k.length := by simp [ByteArray.size]
  generalize grownCap w (ByteArray.size ⟨k.toArray⟩) 0 5 = cap at *
  have hb : (w.drew.alloc (.cells (bytesRow ⟨k.toArray⟩ cap) 5 ((bytesRow ⟨k.toArray⟩ cap).size, (bytesRow ⟨k.toArray⟩ cap).size + 1))).heap[w.heap.size]? = some (.cells (bytesRow ⟨k.toArray⟩ cap) 5 ((bytesRow ⟨k.toArray⟩ cap).size, (bytesRow ⟨k.toArray⟩ cap).size + 1)) := by
    show (w.heap.push _)[w.heap.size]? = _
    simp
  have hB : Below w.heap.size w (w.drew.alloc (.cells (bytesRow ⟨k.toArray⟩ cap) 5 ((bytesRow ⟨k.toArray⟩ cap).size, (bytesRow ⟨k.toArray⟩ cap).size + 1))) := below_alloc (below_drewN (Below.refl _ _) 1) _
  rw [hsz] at hrun hge
  refine ⟨cap, _, hrun, ⟨hge, hk, fun i hi => ⟨_, rfl, blk_lt hb, ?_⟩⟩, hB⟩
  rw [addr_add_plain]
  refine (blk_cell hb i).trans ?_
  unfold bytesRow
  rw [Array.getElem?_append_left (by simpa using hi)]
  simp [hi]
end Go.Proofs.Ytgbjhlkjceonpaa.Lst
/- find; sets as elements of lists. -/
namespace Go.Proofs.Ytgbjhlkjceonpaa.Lst
open Go.RowKit Go.Proofs.Ytgbjhlkjceonpaa.K Go.Proofs.Ytgbjhlkjceonpaa.Help Go.Proofs.Ytgbjhlkjceonpaa.Pfx Go.Proofs.Ytgbjhlkjceonpaa.Peer
set_option linter.unusedVariables false

def hasK (l : List RowD) (k : List UInt8) : Bool := l.any (fun r => r.1 == k)
def RetF (w : World) (l : List RowD) (k : List UInt8) (e : Ending) (w' : World) : Prop := ∃ B b, e = .returned (.tuple #[.slice B (valOf l k).length b, .bool (hasK l k)]) ∧ Bs w' B b (valOf l k) ∧ Below w.heap.size w w'
theorem find_hit {l : List RowD} {k : List UInt8} {i : Nat} (hi : i < l.length) (h0 : ∀ j, j < i → (l.getD j zR).1 ≠ k) (h1 : (l.getD i zR).1 = k) : hasK l k = true ∧ valOf l k = (l.getD i zR).2 := by
  induction l generalizing i with
  | nil => simp at hi
  | cons r t ih =>
    match i with
    | 0 =>
      simp at h1 ⊢
      exact ⟨by simp [hasK, h1], by simp [valOf, h1]⟩
    | i + 1 =>
      have hr : (r.1 == k) = false := by simpa using h0 0 (by omega)
      have h2 := ih (i := i) (by simpa using hi) (fun j hj => by have := h0 (j + 1) (by omega); simpa using this) (by simpa using h1)
      refine ⟨by unfold hasK at h2 ⊢; rw [List.any_cons, h2.1]; simp, ?_⟩
      unfold valOf at h2 ⊢
      rw [List.find?_cons, hr]
      simpa using h2.2
theorem find_miss {l : List RowD} {k : List UInt8} (h0 : ∀ j, j < l.length → (l.getD j zR).1 ≠ k) : hasK l k = false ∧ valOf l k = [] := by
  induction l with
  | nil => exact ⟨rfl, rfl⟩
  | cons r t ih =>
    have hr : (r.1 == k) = false := by simpa using h0 0 (by simp)
    have h2 := ih (fun j hj => by have := h0 (j + 1) (by simpa using hj); simpa using this)
    refine ⟨by unfold hasK at h2 ⊢; rw [List.any_cons, h2.1, hr]; rfl, ?_⟩
    unfold valOf at h2 ⊢
    rw [List.find?_cons, hr]
    exact h2.2
abbrev SetD := List UInt8 × List UInt8 × Bool
def SetR (w : World) (N : Nat → Prop) (raw : List Value) (x : SetD) : Prop := ∃ A a B b, raw = [.slice A x.1.length a, .slice B x.2.1.length b, .bool x.2.2] ∧ BsN w N A a x.1 ∧ BsN w N B b x.2.1
def SetE : Elem SetD where
  sz := 3
  R := SetR
  len := fun ⟨A, a, B, b, h, _⟩ => by rw [h]; rfl
  one := fun ⟨A, a, B, b, h, _⟩ u hu => by
    rw [h] at hu
    simp only [List.mem_cons, List.not_mem_nil, or_false] at hu
    rcases hu with rfl | rfl | rfl <;> rfl
  below := fun ⟨A, a, B, b, h, h1, h2⟩ hb => ⟨A, a, B, b, h, h1.below hb, h2.below hb⟩
  only := fun ⟨A, a, B, b, h, h1, h2⟩ k hT => ⟨A, a, B, b, h, h1.only k hT, h2.only k hT⟩
  reno := fun ⟨A, a, B, b, h, h1, h2⟩ hN => ⟨A, a, B, b, h, h1.reno hN, h2.reno hN⟩
theorem info_set : (Try.prog.info? 130).map (fun i => (i.zero, i.size, i.bytes)) = some (some (.agg #[.slice none 0 0, .slice none 0 0, .bool false]), 3, 56) := by kernel_rfl
end Go.Proofs.Ytgbjhlkjceonpaa.Lst
/- The walk of the document's laySet. -/
namespace Go.Proofs.Ytgbjhlkjceonpaa.Lst
open Go.RowKit Go.Proofs.Ytgbjhlkjceonpaa.K Go.Proofs.Ytgbjhlkjceonpaa.Help Go.Proofs.Ytgbjhlkjceonpaa.Pfx Go.Proofs.Ytgbjhlkjceonpaa.Peer
set_option linter.unusedVariables false

theorem set_key {w : World} {N : Nat → Prop} {A : Option Addr} {n a : Nat} {rest : List Value} {d : SetD} (h : SetE.R w N (Value.slice A n a :: rest) d) : Bs w A a d.1 := by
  obtain ⟨A', a', B', b', e, h1, h2⟩ := h
  injection e with e1 e2
  injection e1 with e3 e4 e5
  subst e3 e5
  exact h1.1
def ltS (a b : SetD) : Bool := lessB a.1 b.1
def zeroSet : SetD := ([], [], false)
end Go.Proofs.Ytgbjhlkjceonpaa.Lst
/- The walk of the document's rowsOf. -/
namespace Go.Proofs.Ytgbjhlkjceonpaa.Lst
open Go.RowKit Go.Proofs.Ytgbjhlkjceonpaa.K Go.Proofs.Ytgbjhlkjceonpaa.Help Go.Proofs.Ytgbjhlkjceonpaa.Pfx Go.Proofs.Ytgbjhlkjceonpaa.Peer
set_option linter.unusedVariables false

noncomputable def rowP (p : PeerD) : RowD := ((putPeer p).1, (putPeer p).2.1)
noncomputable def okP (p : PeerD) : Bool := (putPeer p).2.2 == 0
def rowL (d : LaneD) : RowD := ((putLane d).1, (putLane d).2.1)
def okL (d : LaneD) : Bool := (putLane d).2.2 == 0
noncomputable def rowsPL (ps : List PeerD) (ls : List LaneD) : List RowD := ps.map rowP ++ ls.map rowL
noncomputable def goodPL (ps : List PeerD) (ls : List LaneD) : Bool := ps.all okP && ls.all okL
def RetR (w : World) (l : List RowD) (b : Bool) (e : Ending) (w' : World) : Prop := ∃ A c, e = .returned (.tuple #[.slice A l.length c, .bool b]) ∧ Lst RowE w' (fun _ => False) A c l ∧ Below w.heap.size w w'
theorem take_map {α β : Type} (f : α → β) (z : α) (l : List α) (k : Nat) (hk : k < l.length) : (l.take (k + 1)).map f = (l.take k).map f ++ [f (l.getD k z)] := by
  have e : l.getD k z = l[k] := by simp [hk]
  rw [List.take_succ_eq_append_getElem hk, List.map_append, e]; rfl
theorem take_all {α : Type} (f : α → Bool) (z : α) (l : List α) (k : Nat) (hk : k < l.length) : (l.take (k + 1)).all f = ((l.take k).all f && f (l.getD k z)) := by
  have e : l.getD k z = l[k] := by simp [hk]
  rw [List.take_succ_eq_append_getElem hk, List.all_append, e, List.all_cons, List.all_nil, Bool.and_true]
theorem blk_two (w : World) (q1 q2 : Obj) : ((w.alloc q1).alloc q2).heap[w.heap.size + 1]? = some q2 := by
  have := blk_new (w.alloc q1) q2
  simpa using this
theorem fresh_row {W W2 : World} {A B : Option Addr} {a b : Nat} {k v : List UInt8} {N : Nat → Prop} (h1 : Bs W2 A a k) (h2 : Bs W2 B b v) (n1 : Nw W A) (n2 : Nw W B) (hv : ∀ i, N i → i < W.heap.size) :
    RowE.R W2 N [Value.slice A k.length a, .slice B v.length b] (k, v) := ⟨A, a, B, b, rfl, Bs.fresh h1 n1 hv, Bs.fresh h2 n2 hv⟩
end Go.Proofs.Ytgbjhlkjceonpaa.Lst
/- The program's State answers what the document's State answers. -/
namespace Go.Proofs.Ytgbjhlkjceonpaa.Lst
open Go.RowKit Go.Proofs.Ytgbjhlkjceonpaa.K Go.Proofs.Ytgbjhlkjceonpaa.Help Go.Proofs.Ytgbjhlkjceonpaa.Pfx Go.Proofs.Ytgbjhlkjceonpaa.Peer
set_option linter.unusedVariables false

/-! the three kinds -/
noncomputable def gP (r : RowD) : Option PeerD := if (peerGet r.1 r.2).2 = 0 then some (peerGet r.1 r.2).1 else none
noncomputable def gL (r : RowD) : Option LaneD := if (laneGet r.1 r.2).2 = 0 then some (laneGet r.1 r.2).1 else none
noncomputable def gB (r : RowD) : Option Int := if (bootsGet r.1 r.2).2 = 0 then some (bootsGet r.1 r.2).1 else none
theorem peerGet_key {k v : List UInt8} (h : (peerGet k v).2 = 0) : k = 80 :: be 4 (peerGet k v).1.link.toNat ∧ 1 ≤ (peerGet k v).1.link ∧ (peerGet k v).1.link ≤ 4294967295 := by
  unfold peerGet at h ⊢
  split at h
  · rename_i hc
    rw [if_pos hc]
    by_cases ho : peerOk (peerRd k v)
    · rw [putPeer_ok ho] at hc
      exact ⟨hc.2.1.symm, ho.1.1, ho.1.2.1⟩
    · rw [putPeer_bad ho] at hc
      cases hc.1
  · cases h
theorem laneGet_key {k v : List UInt8} (h : (laneGet k v).2 = 0) : k = 76 :: (laneGet k v).1.key := by
  unfold laneGet at h ⊢
  split at h
  · rename_i hc
    rw [if_pos hc]
    by_cases ho : laneOk (laneRd k v)
    · rw [putLane_yes ho] at hc
      exact hc.2.1.symm
    · rw [putLane_no ho] at hc
      cases hc.1
  · cases h
theorem bootsGet_key {k v : List UInt8} (h : (bootsGet k v).2 = 0) : k = [66] := by
  unfold bootsGet at h
  split at h
  · rename_i hc
    unfold putBoots at hc
    split at hc
    · cases hc.1
    · exact hc.2.1.symm
  · cases h
theorem gP_key {r : RowD} {x : PeerD} (h : gP r = some x) : r.1 = 80 :: be 4 x.link.toNat ∧ 1 ≤ x.link ∧ x.link ≤ 4294967295 := by
  unfold gP at h
  split at h
  · rename_i hc
    injection h with h
    subst h
    exact peerGet_key hc
  · cases h
theorem gL_key {r : RowD} {x : LaneD} (h : gL r = some x) : r.1 = 76 :: x.key := by
  unfold gL at h
  split at h
  · rename_i hc
    injection h with h
    subst h
    exact laneGet_key hc
  · cases h
theorem gB_key {r : RowD} {x : Int} (h : gB r = some x) : r.1 = [66] := by
  unfold gB at h
  split at h
  · rename_i hc
    exact bootsGet_key hc
  · cases h
theorem gP_only {r : RowD} {x : PeerD} (h : gP r = some x) : gL r = none ∧ gB r = none := by
  have hk := (gP_key h).1
  constructor
  · cases e : gL r with
    | none => rfl
    | some y => rw [gL_key e] at hk; injection hk with hk; cases hk
  · cases e : gB r with
    | none => rfl
    | some y => rw [gB_key e] at hk; injection hk with hk; cases hk
theorem gL_only {r : RowD} {x : LaneD} (h : gL r = some x) : gB r = none := by
  have hk := gL_key h
  cases e : gB r with
  | none => rfl
  | some y => rw [gB_key e] at hk; injection hk with hk; cases hk
noncomputable def okR (r : RowD) : Bool := (gP r).isSome || (gL r).isSome || (gB r).isSome
/-- the document's fold -/
theorem fold_ref : ∀ (l : List RowD) (s : StD), l.foldl stepS s = ((l.filterMap gP).foldl (layG ltP) s.1, (l.filterMap gL).foldl (layG ltL) s.2.1, (l.filterMap gB).foldl (fun _ v => v) s.2.2.1, s.2.2.2 && l.all okR)
  | [], s => by simp
  | r :: t, s => by
    rw [List.foldl_cons, fold_ref t]
    cases hp : gP r with
    | some x =>
      have hs : stepS s r = (layG ltP s.1 x, s.2.1, s.2.2.1, s.2.2.2) := by
        unfold gP at hp
        split at hp
        · rename_i hc; injection hp with hp; subst hp; unfold stepS; rw [if_pos hc]
        · cases hp
      rw [hs]
      simp [hp, gP_only hp, okR]
    | none =>
      have hp0 : ¬ (peerGet r.1 r.2).2 = 0 := by intro hc; unfold gP at hp; rw [if_pos hc] at hp; cases hp
      cases hq : gL r with
      | some x =>
        have hs : stepS s r = (s.1, layG ltL s.2.1 x, s.2.2.1, s.2.2.2) := by
          unfold gL at hq
          split at hq
          · rename_i hc; injection hq with hq; subst hq; unfold stepS; rw [if_neg hp0, if_pos hc]
          · cases hq
        rw [hs]
        simp [hp, hq, gL_only hq, okR]
      | none =>
        have hq0 : ¬ (laneGet r.1 r.2).2 = 0 := by intro hc; unfold gL at hq; rw [if_pos hc] at hq; cases hq
        cases hb : gB r with
        | some x =>
          have hs : stepS s r = (s.1, s.2.1, x, s.2.2.2) := by
            unfold gB at hb
            split at hb
            · rename_i hc; injection hb with hb; subst hb; unfold stepS; rw [if_neg hp0, if_neg hq0, if_pos hc]
            · cases hb
          rw [hs]
          simp [hp, hq, hb, okR]
        | none =>
          have hb0 : ¬ (bootsGet r.1 r.2).2 = 0 := by intro hc; unfold gB at hb; rw [if_pos hc] at hb; cases hb
          have hs : stepS s r = (s.1, s.2.1, s.2.2.1, false) := by unfold stepS; rw [if_neg hp0, if_neg hq0, if_neg hb0]
          rw [hs]
          simp [hp, hq, hb, okR]
theorem gP_head {c : UInt8} {t v : List UInt8} (hc : c ≠ 80) : gP (c :: t, v) = none := by
  cases e : gP (c :: t, v) with
  | none => rfl
  | some x =>
    have h := (gP_key e).1
    have h2 : c = 80 := (List.cons.inj h).1
    exact absurd h2 hc
theorem gL_head {c : UInt8} {t v : List UInt8} (hc : c ≠ 76) : gL (c :: t, v) = none := by
  cases e : gL (c :: t, v) with
  | none => rfl
  | some x =>
    have h := gL_key e
    have h2 : c = 76 := (List.cons.inj h).1
    exact absurd h2 hc
theorem gB_head {c : UInt8} {t v : List UInt8} (hc : c ≠ 66) : gB (c :: t, v) = none := by
  cases e : gB (c :: t, v) with
  | none => rfl
  | some x =>
    have h := gB_key e
    have h2 : c = 66 := (List.cons.inj h).1
    exact absurd h2 hc
theorem g_nil (v : List UInt8) : gP ([], v) = none ∧ gL ([], v) = none ∧ gB ([], v) = none := by
  refine ⟨?_, ?_, ?_⟩
  · cases e : gP ([], v) with
    | none => rfl
    | some x => have h := (gP_key e).1; exact absurd h (by simp)
  · cases e : gL ([], v) with
    | none => rfl
    | some x => have h := gL_key e; exact absurd h (by simp)
  · cases e : gB ([], v) with
    | none => rfl
    | some x => have h := gB_key e; exact absurd h (by simp)
noncomputable def pick (s : T3) (a : Option PeerD) (b : Option LaneD) (c : Option Int) : Option T3 := match a with
    | some x => some (s.1 ++ [x], s.2.1, s.2.2)
    | none => match b with
      | some x => some (s.1, s.2.1 ++ [x], s.2.2)
      | none => match c with
        | some x => some (s.1, s.2.1, x)
        | none => none
theorem stepO_nil (s : T3) (v : List UInt8) : stepO s [] v = none := rfl
theorem stepO_cons (s : T3) (c : UInt8) (t v : List UInt8) : stepO s (c :: t) v = if c = 80 then (if (peerGet (c :: t) v).2 = 0 then some (s.1 ++ [(peerGet (c :: t) v).1], s.2.1, s.2.2) else none)
    else if c = 76 then (if (laneGet (c :: t) v).2 = 0 then some (s.1, s.2.1 ++ [(laneGet (c :: t) v).1], s.2.2) else none)
    else if c = 66 then (if (bootsGet (c :: t) v).2 = 0 then some (s.1, s.2.1, (bootsGet (c :: t) v).1) else none)
    else none := by
  rfl
/-- the program's step -/
theorem stepO_eq (s : T3) (r : RowD) : stepO s r.1 r.2 = pick s (gP r) (gL r) (gB r) := by
  obtain ⟨k, v⟩ := r
  rcases k with _ | ⟨c, t⟩
  · obtain ⟨h1, h2, h3⟩ := g_nil v
    rw [h1, h2, h3]
    exact stepO_nil s v
  · show stepO s (c :: t) v = _
    rw [stepO_cons]
    by_cases h80 : c = 80
    · rw [if_pos h80, gL_head (by rw [h80]; decide), gB_head (by rw [h80]; decide)]
      unfold gP
      generalize hg : peerGet (c :: t) v = pg
      by_cases hc : pg.2 = 0
      · rw [if_pos hc]
        rw [if_pos hc]
        rfl
      · rw [if_neg hc]
        rw [if_neg hc]
        rfl
    · rw [if_neg h80, gP_head h80]
      by_cases h76 : c = 76
      · rw [if_pos h76, gB_head (by rw [h76]; decide)]
        unfold gL
        generalize hg : laneGet (c :: t) v = pg
        by_cases hc : pg.2 = 0
        · rw [if_pos hc]
          rw [if_pos hc]
          rfl
        · rw [if_neg hc]
          rw [if_neg hc]
          rfl
      · rw [if_neg h76, gL_head h76]
        by_cases h66 : c = 66
        · rw [if_pos h66]
          unfold gB
          generalize hg : bootsGet (c :: t) v = pg
          by_cases hc : pg.2 = 0
          · rw [if_pos hc]
            rw [if_pos hc]
            rfl
          · rw [if_neg hc]
            rw [if_neg hc]
            rfl
        · rw [if_neg h66, gB_head h66]
          rfl
noncomputable def stepR (s : Option T3) (r : RowD) : Option T3 := match s with | none => none | some s => stepO s r.1 r.2
theorem stepR_none : ∀ l : List RowD, l.foldl stepR none = none
  | [] => rfl
  | r :: t => stepR_none t
theorem fold_prog : ∀ (l : List RowD) (s : T3), l.foldl stepR (some s) = if l.all okR = true then some (s.1 ++ l.filterMap gP, s.2.1 ++ l.filterMap gL, (l.filterMap gB).foldl (fun _ v => v) s.2.2) else none
  | [], s => by simp
  | r :: t, s => by
    rw [List.foldl_cons]
    have hs : stepR (some s) r = stepO s r.1 r.2 := rfl
    rw [hs, stepO_eq, List.all_cons]
    cases hp : gP r with
    | some x =>
      have ho : okR r = true := by unfold okR; rw [hp]; rfl
      unfold pick
      dsimp only
      rw [fold_prog t, ho, Bool.true_and]
      simp [hp, gP_only hp]
    | none =>
      cases hq : gL r with
      | some x =>
        have ho : okR r = true := by unfold okR; rw [hp, hq]; rfl
        unfold pick
        dsimp only
        rw [fold_prog t, ho, Bool.true_and]
        simp [hp, hq, gL_only hq]
      | none =>
        cases hb : gB r with
        | some x =>
          have ho : okR r = true := by unfold okR; rw [hp, hq, hb]; rfl
          unfold pick
          dsimp only
          rw [fold_prog t, ho, Bool.true_and]
          simp [hp, hq, hb]
        | none =>
          have ho : okR r = false := by unfold okR; rw [hp, hq, hb]; rfl
          unfold pick
          dsimp only
          rw [stepR_none, ho]
          simp
/-! insertion -/
def insG {α : Type} (lt : α → α → Bool) (p : α) : List α → List α
  | [] => [p]
  | x :: r => if lt p x then p :: x :: r else x :: insG lt p r
theorem layF_done {α : Type} (lt : α → α → Bool) (p : α) : ∀ (l acc : List α), l.foldl (layF lt p) (acc, true) = (acc ++ l, true)
  | [], acc => by simp
  | x :: r, acc => by
    rw [List.foldl_cons]
    have : layF lt p (acc, true) x = (acc ++ [x], true) := by simp [layF]
    rw [this, layF_done lt p r]
    simp
theorem layF_ins {α : Type} (lt : α → α → Bool) (p : α) : ∀ (l acc : List α), (if (l.foldl (layF lt p) (acc, false)).2 then (l.foldl (layF lt p) (acc, false)).1 else (l.foldl (layF lt p) (acc, false)).1 ++ [p]) = acc ++ insG lt p l
  | [], acc => by simp [insG]
  | x :: r, acc => by
    rw [List.foldl_cons]
    by_cases h : lt p x = true
    · have : layF lt p (acc, false) x = (acc ++ [p, x], true) := by simp [layF, h]
      rw [this, layF_done]
      simp [insG, h]
    · have : layF lt p (acc, false) x = (acc ++ [x], false) := by simp [layF, h]
      rw [this, layF_ins lt p r]
      simp [insG, h]
theorem layG_ins {α : Type} (lt : α → α → Bool) (l : List α) (p : α) : layG lt l p = insG lt p l := by
  have := layF_ins lt p l []
  unfold layG
  simpa using this
section
variable {α : Type} {lt : α → α → Bool}
theorem insG_perm (p : α) : ∀ l : List α, (insG lt p l).Perm (p :: l)
  | [] => by simp [insG]
  | x :: r => by
    unfold insG
    split
    · exact List.Perm.refl _
    · exact ((insG_perm p r).cons x).trans (List.Perm.swap p x r)
theorem insG_sorted (asym : ∀ a b, lt a b = true → lt b a = false) (tr : ∀ a b c, lt b a = false → lt c b = false → lt c a = false) (p : α) : ∀ l : List α, l.Pairwise (fun a b => lt b a = false) → (insG lt p l).Pairwise (fun a b => lt b a = false)
  | [], _ => by simp [insG]
  | x :: r, h => by
    obtain ⟨h1, h2⟩ := List.pairwise_cons.1 h
    unfold insG
    by_cases hp : lt p x = true
    · rw [if_pos hp]
      refine List.pairwise_cons.2 ⟨fun y hy => ?_, h⟩
      rcases List.mem_cons.1 hy with rfl | hy
      · exact asym _ _ hp
      · exact tr _ _ _ (asym _ _ hp) (h1 y hy)
    · rw [if_neg hp]
      refine List.pairwise_cons.2 ⟨fun y hy => ?_, insG_sorted asym tr p r h2⟩
      rcases List.mem_cons.1 ((insG_perm p r).mem_iff.1 hy) with rfl | hy
      · simpa using hp
      · exact h1 y hy
theorem fold_ins (asym : ∀ a b, lt a b = true → lt b a = false) (tr : ∀ a b c, lt b a = false → lt c b = false → lt c a = false) : ∀ (xs l : List α), l.Pairwise (fun a b => lt b a = false) → (xs.foldl (layG lt) l).Pairwise (fun a b => lt b a = false) ∧ (xs.foldl (layG lt) l).Perm (l ++ xs)
  | [], l, h => ⟨h, by simp⟩
  | x :: r, l, h => by
    rw [List.foldl_cons, layG_ins]
    obtain ⟨h1, h2⟩ := fold_ins asym tr r (insG lt x l) (insG_sorted asym tr x l h)
    refine ⟨h1, h2.trans ?_⟩
    exact ((insG_perm x l).append_right r).trans (List.perm_middle.symm)
end
theorem val_acc : ∀ (l : List UInt8) (x : Nat), l.foldl (fun x b => x * 256 + b.toNat) x = x * 256 ^ l.length + val l
  | [], x => by simp [val]
  | b :: t, x => by
    have h : val (b :: t) = t.foldl (fun x b => x * 256 + b.toNat) (0 * 256 + b.toNat) := rfl
    rw [h, List.foldl_cons, val_acc t, val_acc t, List.length_cons, Nat.pow_succ]
    have e : x * 256 * 256 ^ t.length = x * (256 ^ t.length * 256) := by rw [Nat.mul_assoc, Nat.mul_comm 256]
    rw [Nat.add_mul, e, Nat.zero_mul, Nat.zero_add, Nat.add_assoc]
theorem val_cons (x : UInt8) (l : List UInt8) : val (x :: l) = x.toNat * 256 ^ l.length + val l := by
  have h : val (x :: l) = l.foldl (fun x b => x * 256 + b.toNat) (0 * 256 + x.toNat) := rfl
  rw [h, val_acc]
  simp
theorem val_mono : ∀ (l m : List UInt8), l.length = m.length → val l < val m → l < m
  | [], [], _, h => by simp at h
  | [], _ :: _, h, _ => by simp at h
  | _ :: _, [], h, _ => by simp at h
  | x :: l, y :: m, hl, h => by
    rw [val_cons, val_cons] at h
    have hlen : l.length = m.length := by simpa using hl
    rw [hlen] at h
    have h1 := val_lt l
    have h2 := val_lt m
    rw [hlen] at h1
    rw [List.cons_lt_cons_iff]
    by_cases hxy : x = y
    · subst hxy
      exact .inr ⟨rfl, val_mono l m hlen (by omega)⟩
    · refine .inl ?_
      rw [UInt8.lt_iff_toNat_lt]
      have hne : x.toNat ≠ y.toNat := fun e => hxy (UInt8.toNat_inj.1 e)
      rcases Nat.lt_or_ge x.toNat y.toNat with hc | hc
      · exact hc
      exfalso
      have hlt : y.toNat + 1 ≤ x.toNat := by omega
      have h3 : (y.toNat + 1) * 256 ^ m.length ≤ x.toNat * 256 ^ m.length := Nat.mul_le_mul_right _ hlt
      rw [Nat.add_mul, Nat.one_mul] at h3
      omega
theorem lessB_iff : ∀ (l m : List UInt8), lessB l m = decide (l < m)
  | [], [] => by simp [lessB]
  | [], y :: m => by simp [lessB]
  | x :: l, [] => by simp [lessB]
  | x :: l, y :: m => by
    unfold lessB
    by_cases h : x = y
    · subst h
      rw [if_pos rfl, lessB_iff l m]
      simp [List.cons_lt_cons_iff]
    · rw [if_neg h]
      simp [List.cons_lt_cons_iff, h]
/-! the order of peers and of lanes -/
theorem ltP_asym (a b : PeerD) (h : ltP a b = true) : ltP b a = false := by unfold ltP at *; simp at *; omega
theorem ltP_tr (a b c : PeerD) (h1 : ltP b a = false) (h2 : ltP c b = false) : ltP c a = false := by unfold ltP at *; simp at *; omega
theorem ltL_asym (a b : LaneD) (h : ltL a b = true) : ltL b a = false := by
  unfold ltL at *
  rw [lessB_iff] at *
  simp at *
  exact List.le_of_lt h
theorem ltL_tr (a b c : LaneD) (h1 : ltL b a = false) (h2 : ltL c b = false) : ltL c a = false := by
  unfold ltL at *
  rw [lessB_iff] at *
  simp at *
  exact List.le_trans h1 h2
theorem be_inj {m n : Nat} (hm : m ≤ 4294967295) (hn : n ≤ 4294967295) (h : be 4 m = be 4 n) : m = n := by
  have := congrArg val h
  rw [val_be, val_be, Nat.mod_eq_of_lt (by omega), Nat.mod_eq_of_lt (by omega)] at this
  exact this
theorem ordP {r q : RowD} {x y : PeerD} (hx : gP r = some x) (hy : gP q = some y) (h : r.1 ≤ q.1) : ltP y x = false := by
  obtain ⟨k1, a1, b1⟩ := gP_key hx
  obtain ⟨k2, a2, b2⟩ := gP_key hy
  cases e : ltP y x with
  | false => rfl
  | true =>
    unfold ltP at e
    have hlt : y.link < x.link := by simpa using e
    exfalso
    apply h
    rw [k1, k2, List.cons_lt_cons_iff]
    refine .inr ⟨rfl, val_mono _ _ (by rw [be_len, be_len]) ?_⟩
    rw [val_be, val_be, Nat.mod_eq_of_lt (by omega), Nat.mod_eq_of_lt (by omega)]
    omega
theorem ordL {r q : RowD} {x y : LaneD} (hx : gL r = some x) (hy : gL q = some y) (h : r.1 ≤ q.1) : ltL y x = false := by
  have k1 := gL_key hx
  have k2 := gL_key hy
  cases e : ltL y x with
  | false => rfl
  | true =>
    unfold ltL at e
    rw [lessB_iff] at e
    exfalso
    apply h
    rw [k1, k2, List.cons_lt_cons_iff]
    exact .inr ⟨rfl, by simpa using e⟩
theorem one_row {l : List RowD} (hn : (l.map Prod.fst).Nodup) {r q : RowD} (hr : r ∈ l) (hq : q ∈ l) (h : r.1 = q.1) : r = q := by
  induction l with
  | nil => cases hr
  | cons x t ih =>
    rw [List.map_cons, List.nodup_cons] at hn
    rcases List.mem_cons.1 hr with e1 | hr2
    · rcases List.mem_cons.1 hq with e2 | hq2
      · rw [e1, e2]
      · exact absurd (List.mem_map.2 ⟨q, hq2, by rw [← h, e1]⟩) hn.1
    · rcases List.mem_cons.1 hq with e2 | hq2
      · exact absurd (List.mem_map.2 ⟨r, hr2, by rw [h, e2]⟩) hn.1
      · exact ih hn.2 hr2 hq2
theorem valOf_mem {l : List RowD} (hn : (l.map Prod.fst).Nodup) {r : RowD} (hr : r ∈ l) : valOf l r.1 = r.2 := by
  unfold valOf
  cases e : l.find? (fun q => q.1 == r.1) with
  | none => have := List.find?_eq_none.1 e r hr; simp at this
  | some q =>
    have h1 := List.find?_some e
    have h2 := List.mem_of_find?_eq_some e
    rw [one_row hn h2 hr (by simpa using h1)]
/-- the rows in the order of their keys -/
def rowsL (l : List RowD) : List RowD := (keysL l).map (fun k => (k, valOf l k))
theorem rowsL_perm {l : List RowD} (hn : (l.map Prod.fst).Nodup) : (rowsL l).Perm l := by
  have h1 : (rowsL l).Perm ((l.map Prod.fst).map (fun k => (k, valOf l k))) := (List.mergeSort_perm _ _).map _
  have h2 : (l.map Prod.fst).map (fun k => (k, valOf l k)) = l := by
    rw [List.map_map]
    conv => rhs; rw [← List.map_id l]
    apply List.map_congr_left
    intro r hr
    show (r.1, valOf l r.1) = r
    rw [valOf_mem hn hr]
  rw [h2] at h1
  exact h1
theorem rowsL_sorted (l : List RowD) : (rowsL l).Pairwise (fun r q => r.1 ≤ q.1) := by
  have tr : ∀ a b c : List UInt8, decide (a ≤ b) = true → decide (b ≤ c) = true → decide (a ≤ c) = true := fun a b c h1 h2 => by simp only [decide_eq_true_eq] at *; exact List.le_trans h1 h2
  have tot : ∀ a b : List UInt8, (decide (a ≤ b) || decide (b ≤ a)) = true := fun a b => by simp only [Bool.or_eq_true, decide_eq_true_eq]; exact List.le_total a b
  have h := List.pairwise_mergeSort tr tot (l.map Prod.fst)
  exact List.pairwise_map.2 (h.imp (fun h => by simpa using h))
theorem foldK_rows (l : List RowD) : foldK l = (rowsL l).foldl stepR (some ([], [], 0)) := by
  unfold foldK rowsL
  rw [List.foldl_map]
  rfl
theorem twice_nodup (l : List RowD) : twiceB l = false ↔ (l.map Prod.fst).Nodup := by
  unfold twiceB
  rw [decide_eq_false_iff_not, List.nodup_iff_pairwise_ne, List.pairwise_map, List.pairwise_iff_getElem]
  constructor
  · intro h i j hi hj hij e
    exact h ⟨j, hj, i, hij, by simpa [hi, hj] using e.symm⟩
  · rintro h ⟨i, hi, j, hij, e⟩
    refine h j i (by omega) hi hij ?_
    simpa [hi, show j < l.length by omega] using e.symm
theorem mem_fm {α : Type} {g : RowD → Option α} {l : List RowD} {x : α} (h : x ∈ l.filterMap g) : ∃ r, r ∈ l ∧ g r = some x := List.mem_filterMap.1 h
/-- both answer alike -/
theorem progState_eq (l : List RowD) : progState l = refState l := by
  unfold progState refState foldS
  rw [fold_ref]
  by_cases hn : (l.map Prod.fst).Nodup
  · rw [if_pos hn, (twice_nodup l).2 hn, foldK_rows, fold_prog]
    have hp := rowsL_perm hn
    have hso := rowsL_sorted l
    have hall : (rowsL l).all okR = l.all okR := by
      rw [Bool.eq_iff_iff, List.all_eq_true, List.all_eq_true]
      exact ⟨fun h x hx => h x (hp.mem_iff.2 hx), fun h x hx => h x (hp.mem_iff.1 hx)⟩
    rw [hall]
    dsimp only
    cases hok : l.all okR with
    | false => simp [ansK]
    | true =>
      have e1 : (l.filterMap gP).foldl (layG ltP) [] = (rowsL l).filterMap gP := by
        obtain ⟨s1, p1⟩ := fold_ins ltP_asym ltP_tr (l.filterMap gP) [] List.Pairwise.nil
        have s2 : ((rowsL l).filterMap gP).Pairwise (fun a b => ltP b a = false) := by
          rw [List.pairwise_filterMap]
          exact hso.imp (fun h a ha b hb => ordP ha hb h)
        refine List.Perm.eq_of_pairwise (le := fun a b => ltP b a = false) (fun a b ha hb h1 h2 => ?_) s1 s2 (p1.trans (by simpa using (hp.filterMap gP).symm))
        obtain ⟨r, hr, er⟩ := mem_fm (l := l) (by simpa using p1.mem_iff.1 ha)
        obtain ⟨q, hq, eq⟩ := mem_fm hb
        have hq := hp.mem_iff.1 hq
        have hl : a.link = b.link := by unfold ltP at h1 h2; simp at h1 h2; omega
        have hk : r.1 = q.1 := by rw [(gP_key er).1, (gP_key eq).1, hl]
        have := one_row hn hr hq hk
        rw [this, eq] at er
        injection er with er
        exact er.symm
      have e2 : (l.filterMap gL).foldl (layG ltL) [] = (rowsL l).filterMap gL := by
        obtain ⟨s1, p1⟩ := fold_ins ltL_asym ltL_tr (l.filterMap gL) [] List.Pairwise.nil
        have s2 : ((rowsL l).filterMap gL).Pairwise (fun a b => ltL b a = false) := by
          rw [List.pairwise_filterMap]
          exact hso.imp (fun h a ha b hb => ordL ha hb h)
        refine List.Perm.eq_of_pairwise (le := fun a b => ltL b a = false) (fun a b ha hb h1 h2 => ?_) s1 s2 (p1.trans (by simpa using (hp.filterMap gL).symm))
        obtain ⟨r, hr, er⟩ := mem_fm (l := l) (by simpa using p1.mem_iff.1 ha)
        obtain ⟨q, hq, eq⟩ := mem_fm hb
        have hq := hp.mem_iff.1 hq
        have hl : a.key = b.key := by
          unfold ltL at h1 h2
          rw [lessB_iff] at h1 h2
          simp at h1 h2
          exact List.le_antisymm h1 h2
        have hk : r.1 = q.1 := by rw [gL_key er, gL_key eq, hl]
        have := one_row hn hr hq hk
        rw [this, eq] at er
        injection er with er
        exact er.symm
      have e3 : (rowsL l).filterMap gB = l.filterMap gB := by
        have hone : ∀ (m : List Int), (∀ x ∈ m, x ∈ l.filterMap gB) → m.Pairwise (fun a b => a = b) := fun m hm => by
          rw [List.pairwise_iff_getElem]
          intro i j hi hj _
          obtain ⟨r, hr, er⟩ := mem_fm (hm _ (List.getElem_mem hi))
          obtain ⟨q, hq, eq⟩ := mem_fm (hm _ (List.getElem_mem hj))
          have := one_row hn hr hq (by rw [gB_key er, gB_key eq])
          rw [this, eq] at er
          injection er with er
          exact er.symm
        refine List.Perm.eq_of_pairwise (le := fun a b => a = b) (fun a b _ _ h1 _ => h1) (hone _ (fun x hx => (hp.filterMap gB).mem_iff.1 hx)) (hone _ (fun x hx => hx)) (hp.filterMap gB)
      rw [e1, e2, e3]
      simp [ansK]
  · rw [if_neg hn]
    have ht : twiceB l = true := by
      cases h : twiceB l with
      | true => rfl
      | false => exact absurd ((twice_nodup l).1 h) hn
    rw [ht]
    simp
end Go.Proofs.Ytgbjhlkjceonpaa.Lst
/- The walk of rows.state. -/
namespace Go.Proofs.Ytgbjhlkjceonpaa.Lst
open Go.RowKit Go.Proofs.Ytgbjhlkjceonpaa.K Go.Proofs.Ytgbjhlkjceonpaa.Help Go.Proofs.Ytgbjhlkjceonpaa.Pfx Go.Proofs.Ytgbjhlkjceonpaa.Peer
set_option linter.unusedVariables false

theorem GOf.below {w w' : World} {l : List RowD} {rs : List GRow} (h : GOf w l rs) (hb : Below w.heap.size w w') : GOf w' l rs := ⟨h.1, fun i x hx => by
  obtain ⟨B, b, e, s⟩ := h.2 i x hx
  exact ⟨B, b, e, s.below hb⟩⟩
theorem GMap.noU8 {w : World} {b : Nat} {rs : List GRow} (h : GMap w b rs) : NoU8 w b := by
  obtain ⟨⟨es, clock, hh, _⟩, _⟩ := h
  intro j x e
  simp [World.cell?, hh] at e
theorem GOf.only {w w' : World} {l : List RowD} {rs : List GRow} {b : Nat} (h : GOf w l rs) (k : Only w w' (fun i => i = b)) (hn : NoU8 w b) : GOf w' l rs := ⟨h.1, fun i x hx => by
  obtain ⟨B, c, e, s⟩ := h.2 i x hx
  exact ⟨B, c, e, bs_only s k (fun i hi _ => by rw [hi]; exact hn)⟩⟩
theorem dup_at {l : List RowD} {i : Nat} (hi : i < l.length) (h : (l.getD i zR).1 ∈ (l.take i).map Prod.fst) : twiceB l = true := by
  cases ht : twiceB l with
  | true => rfl
  | false =>
    have hn := (twice_nodup l).1 ht
    have e : l.getD i zR = l[i] := by simp [hi]
    rw [e] at h
    have h2 : (l.take (i + 1)).map Prod.fst = (l.take i).map Prod.fst ++ [l[i].1] := by rw [List.take_succ_eq_append_getElem hi, List.map_append]; rfl
    have h3 : ((l.take (i + 1)).map Prod.fst).Nodup := (hn.sublist ((List.take_sublist _ _).map _))
    rw [h2] at h3
    exact absurd rfl ((List.nodup_append.1 h3).2.2 _ h _ (by simp))
theorem rowsPL_p {ps : List PeerD} {ls : List LaneD} {k : Nat} (hk : k < ps.length) : (rowsPL ps ls).getD k zR = rowP (ps.getD k zeroPeer) := by
  unfold rowsPL
  have h1 : (ps.map rowP ++ ls.map rowL)[k]? = some (rowP ps[k]) := by rw [List.getElem?_append_left (by simpa using hk)]; simp [hk]
  rw [List.getD_eq_getElem?_getD, h1]
  simp [hk]
theorem rowsPL_l {ps : List PeerD} {ls : List LaneD} {j : Nat} (hj : j < ls.length) : (rowsPL ps ls).getD (ps.length + j) zR = rowL (ls.getD j zeroLane) := by
  unfold rowsPL
  have h1 : (ps.map rowP ++ ls.map rowL)[ps.length + j]? = some (rowL ls[j]) := by rw [List.getElem?_append_right (by simp)]; simp [hj]
  rw [List.getD_eq_getElem?_getD, h1]
  simp [hj]
theorem rowsPL_len (ps : List PeerD) (ls : List LaneD) : (rowsPL ps ls).length = ps.length + ls.length := by unfold rowsPL; simp
theorem take_row (l : List RowD) (k : Nat) (hk : k < l.length) : l.take (k + 1) = l.take k ++ [l.getD k zR] := by
  have e : l.getD k zR = l[k] := by simp [hk]
  rw [List.take_succ_eq_append_getElem hk, e]
theorem bad_p {ps : List PeerD} {ls : List LaneD} {k : Nat} (hk : k < ps.length) (h : okP (ps.getD k zeroPeer) = false) : goodPL ps ls = false := by
  unfold goodPL
  have : ps.all okP = false := by
    rw [List.all_eq_false]
    exact ⟨ps[k], List.getElem_mem hk, by have e : ps.getD k zeroPeer = ps[k] := by simp [hk]
                                          rw [e] at h; simp [h]⟩
  rw [this]; rfl
theorem bad_l {ps : List PeerD} {ls : List LaneD} {k : Nat} (hk : k < ls.length) (h : okL (ls.getD k zeroLane) = false) : goodPL ps ls = false := by
  unfold goodPL
  have : ls.all okL = false := by
    rw [List.all_eq_false]
    exact ⟨ls[k], List.getElem_mem hk, by have e : ls.getD k zeroLane = ls[k] := by simp [hk]
                                          rw [e] at h; simp [h]⟩
  rw [this, Bool.and_false]
def RetM (w : World) (rws : List RowD) (res : Bool) (e : Ending) (w' : World) : Prop :=
  Below w.heap.size w w' ∧ ((res = false ∧ e = .returned (.tuple #[.map none, .bool false])) ∨ (res = true ∧ ∃ b rs, e = .returned (.tuple #[.map (some b), .bool true]) ∧ w.heap.size ≤ b ∧ GMap w' b rs ∧ GOf w' rws rs))
end Go.Proofs.Ytgbjhlkjceonpaa.Lst
/- The walk of the document's Sets. -/
namespace Go.Proofs.Ytgbjhlkjceonpaa.Lst
open Go.RowKit Go.Proofs.Ytgbjhlkjceonpaa.K Go.Proofs.Ytgbjhlkjceonpaa.Help Go.Proofs.Ytgbjhlkjceonpaa.Pfx Go.Proofs.Ytgbjhlkjceonpaa.Peer
set_option linter.unusedVariables false

def stepA (was : List RowD) (s : List SetD) (r : RowD) : List SetD := if (hasK was r.1 && decide (valOf was r.1 = r.2)) = true then s else layG ltS s (r.1, r.2, false)
def stepB (is_ : List RowD) (s : List SetD) (r : RowD) : List SetD := if hasK is_ r.1 = true then s else layG ltS s (r.1, [], true)
abbrev QD := List SetD × Int
def setsOf (was is_ : List RowD) : List SetD := was.foldl (stepB is_) (is_.foldl (stepA was) [])
noncomputable def okPL (ps : List PeerD) (ls : List LaneD) : Bool := goodPL ps ls && !twiceB (rowsPL ps ls)
noncomputable def refSets (ps ps' : List PeerD) (ls ls' : List LaneD) : QD := if (okPL ps ls && okPL ps' ls') = true then (setsOf (rowsPL ps ls) (rowsPL ps' ls'), 0) else ([], 114)
def RetQ (w : World) (r : QD) (e : Ending) (w' : World) : Prop := ∃ A c, e = .returned (.tuple #[.slice A r.1.length c, .int .i64 r.2]) ∧ Lst SetE w' (fun _ => False) A c r.1 ∧ Below w.heap.size w w'
theorem take_fold {α β : Type} (f : β → α → β) (z : α) (s : β) (l : List α) (k : Nat) (hk : k < l.length) : (l.take (k + 1)).foldl f s = f ((l.take k).foldl f s) (l.getD k z) := by
  have e : l.getD k z = l[k] := by simp [hk]
  rw [List.take_succ_eq_append_getElem hk, List.foldl_append, e]; rfl
theorem stepA_len (was : List RowD) (s : List SetD) (r : RowD) : (stepA was s r).length ≤ s.length + 1 := by
  unfold stepA
  split
  · omega
  · rw [layG_len]; omega
theorem stepB_len (is_ : List RowD) (s : List SetD) (r : RowD) : (stepB is_ s r).length ≤ s.length + 1 := by
  unfold stepB
  split
  · omega
  · rw [layG_len]; omega
theorem set_rr {w : World} {A B : Option Addr} {a b : Nat} {k v : List UInt8} {g : Bool} (h1 : Bs w A a k) (h2 : Bs w B b v) : SetE.R w (fun _ => False) [Value.slice A k.length a, .slice B v.length b, .bool g] (k, v, g) := ⟨A, a, B, b, rfl, Bs.bsn h1, Bs.bsn h2⟩
end Go.Proofs.Ytgbjhlkjceonpaa.Lst
/- bytes.Compare. -/
namespace Go.Proofs.Ytgbjhlkjceonpaa.Lst
open Go.RowKit Go.Proofs.Ytgbjhlkjceonpaa.K Go.Proofs.Ytgbjhlkjceonpaa.Help Go.Proofs.Ytgbjhlkjceonpaa.Pfx Go.Proofs.Ytgbjhlkjceonpaa.Peer
set_option linter.unusedVariables false

theorem bytesOf_map (l : List UInt8) : Lib.bytesOf (l.map (fun b => (b.toNat : Int))) = l := by
  induction l with
  | nil => rfl
  | cons x t ih =>
    unfold Lib.bytesOf at ih ⊢
    simp only [List.map_cons, List.map_map] at ih ⊢
    rw [ih]
    simp
theorem bytesOf_bs {w : World} {A : Option Addr} {c : Nat} {l : List UInt8} (h : Bs w A c l) : (Extern.Bytes.bytesOf (.slice A l.length c)).run Try.prog w = .ok ⟨l.toArray⟩ w := by
  rcases A with _ | ad
  · have h0 : l = [] := by
      rcases l with _ | ⟨x, r⟩
      · rfl
      · obtain ⟨ad, h', _⟩ := h.at_ 0 (by simp)
        cases h'
    subst h0
    simp [Extern.Bytes.bytesOf]
    rfl
  · have hl := Lib.run_loadBytesX (P := Try.prog) w (l.map (fun b => (b.toNat : Int))) ad .empty (fun j x hj => by
      rw [List.getElem?_map] at hj
      obtain ⟨b, hb, rfl⟩ := Option.map_eq_some_iff.1 hj
      have hjl := (List.getElem?_eq_some_iff.1 hb).1
      obtain ⟨ad', e, _, hc⟩ := h.at_ j hjl
      cases e
      rw [hc, List.getD_eq_getElem?_getD, hb]
      rfl)
    rw [List.length_map, bytesOf_map] at hl
    simp only [Extern.Bytes.bytesOf]
    rw [hl]
    congr 1
    apply ByteArray.ext
    simp
theorem run_cmp (A B : Option Addr) (c d : Nat) (l m : List UInt8) (w : World) (ha : Bs w A c l) (hb : Bs w B d m) :
    (Extern.BytealgCompare.compare #[.slice A l.length c, .slice B m.length d]).run Try.prog w = .ok (.int .i64 (Lib.compareBytes l m)) w := by
  change Sem.run Try.prog (do pure (goInt (Extern.BytealgCompare.cmp (← Extern.Bytes.bytesOf (.slice A l.length c)) (← Extern.Bytes.bytesOf (.slice B m.length d))))) w = _
  simp only [Sem.run_bind, Sem.run_pure, bytesOf_bs ha, bytesOf_bs hb, Result.andThen]
  rw [Lib.cmp_eq]
  rfl
set_option maxRecDepth 100000 in
theorem bytesCompare (A B : Option Addr) (c d : Nat) (l m : List UInt8) (w : World) (ha : Bs w A c l) (hb : Bs w B d m) :
    Calls Try.prog 74 #[.slice A l.length c, .slice B m.length d] w (fun e w' => e = .returned (.int .i64 (Lib.compareBytes l m)) ∧ w' = w) := by
  have R := run_cmp A B c d l m w ha hb
  clear ha hb
  generalize Lib.compareBytes l m = r at *
  generalize l.length = n1 at *
  generalize m.length = n2 at *
  go_enter Try.func74, Try.ntmps74
  go_wp2_with fail
  rw [run_callFunc_extern Try.func99 (by kernel_rfl) (by kernel_rfl) (by kernel_rfl) (e := Extern.BytealgCompare.compare) (by kernel_rfl), R]
  simp only [Result.andThen]
  rw [Oper.upon_value]
  go_wp2_with fail
  go_ret
  exact ⟨rfl, rfl⟩
end Go.Proofs.Ytgbjhlkjceonpaa.Lst
/- The sort of sets by their keys. -/
namespace Go.Proofs.Ytgbjhlkjceonpaa.Lst
open Go.RowKit Go.Sort Go.Shelf Go.Proofs.Ytgbjhlkjceonpaa.K Go.Proofs.Ytgbjhlkjceonpaa.Help Go.Proofs.Ytgbjhlkjceonpaa.Pfx Go.Proofs.Ytgbjhlkjceonpaa.Peer
set_option linter.unusedVariables false

def sortSet_ren : Go.Shelf.Ren := ⟨fun | 6 => 72 | 15 => 98 | 14 => 97 | 28 => 117 | 29 => 118 | 20 => 109 | 21 => 110 | 22 => 111 | 23 => 112 | 24 => 113 | 25 => 114 | 26 => 115 | 27 => 116 | 46 => 128 | 47 => 129 | 48 => 130 | 49 => 131 | 50 => 132 | 57 => 137 | n => n, fun | 22 => 71 | 24 => 130 | 25 => 133 | 3 => 3 | 39 => 135 | 0 => 0 | 53 => 81 | 55 => 23 | 4 => 4 | 46 => 163 | 45 => 162 | 50 => 167 | 5 => 5 | 9 => 9 | 66 => 177 | 70 => 181 | 76 => 186 | 77 => 50 | n => n, fun | n => n⟩
theorem sortSet : Go.Proofs.SlLaysF0.n6 Try.prog sortSet_ren := {
  mixed := by kernel_rfl
  f6 := ⟨Try.f72.name, by decide, Try.func72.trans (congrArg some (by kernel_rfl))⟩
  f14 := ⟨Try.f97.name, by decide, Try.func97.trans (congrArg some (by kernel_rfl))⟩
  f15 := Try.func98.trans (congrArg some (by kernel_rfl))
  f20 := ⟨Try.f109.name, by decide, Try.func109.trans (congrArg some (by kernel_rfl))⟩
  f21 := ⟨Try.f110.name, by decide, Try.func110.trans (congrArg some (by kernel_rfl))⟩
  f22 := ⟨Try.f111.name, by decide, Try.func111.trans (congrArg some (by kernel_rfl))⟩
  f23 := ⟨Try.f112.name, by decide, Try.func112.trans (congrArg some (by kernel_rfl))⟩
  f24 := ⟨Try.f113.name, by decide, Try.func113.trans (congrArg some (by kernel_rfl))⟩
  f25 := ⟨Try.f114.name, by decide, Try.func114.trans (congrArg some (by kernel_rfl))⟩
  f26 := ⟨Try.f115.name, by decide, Try.func115.trans (congrArg some (by kernel_rfl))⟩
  f27 := ⟨Try.f116.name, by decide, Try.func116.trans (congrArg some (by kernel_rfl))⟩
  f28 := Try.func117.trans (congrArg some (by kernel_rfl))
  f29 := Try.func118.trans (congrArg some (by kernel_rfl))
  f46 := ⟨Try.f128.name, by decide, Try.func128.trans (congrArg some (by kernel_rfl))⟩
  f47 := Try.func129.trans (congrArg some (by kernel_rfl))
  f48 := Try.func130.trans (congrArg some (by kernel_rfl))
  f49 := ⟨Try.f131.name, by decide, Try.func131.trans (congrArg some (by kernel_rfl))⟩
  f50 := ⟨Try.f132.name, by decide, Try.func132.trans (congrArg some (by kernel_rfl))⟩
  f57 := ⟨Try.f137.name, by decide, Try.func137.trans (congrArg some (by kernel_rfl))⟩
  t0 := Try.underlying0
  a0 := Try.isAgg0
  z0 := Try.sizeOf0
  v0 := Try.zeroValue0
  t3 := Try.underlying3
  a3 := Try.isAgg3
  z3 := Try.sizeOf3
  v3 := Try.zeroValue3
  t4 := Try.underlying4
  a4 := Try.isAgg4
  z4 := Try.sizeOf4
  v4 := Try.zeroValue4
  t5 := Try.underlying5
  a5 := Try.isAgg5
  z5 := Try.sizeOf5
  v5 := Try.zeroValue5
  t9 := Try.underlying9
  a9 := Try.isAgg9
  z9 := Try.sizeOf9
  v9 := Try.zeroValue9
  t22 := Try.underlying71
  a22 := Try.isAgg71
  z22 := Try.sizeOf71
  v22 := Try.zeroValue71
  t25 := Try.underlying133
  a25 := Try.isAgg133
  z25 := Try.sizeOf133
  v25 := Try.zeroValue133
  t39 := Try.underlying135
  a39 := Try.isAgg135
  z39 := Try.sizeOf135
  v39 := Try.zeroValue135
  t45 := Try.underlying162
  a45 := Try.isAgg162
  z45 := Try.sizeOf162
  v45 := Try.zeroValue162
  t46 := Try.underlying163
  a46 := Try.isAgg163
  z46 := Try.sizeOf163
  v46 := Try.zeroValue163
  t50 := Try.underlying167
  a50 := Try.isAgg167
  z50 := Try.sizeOf167
  v50 := Try.zeroValue167
  t53 := Try.underlying81
  a53 := Try.isAgg81
  z53 := Try.sizeOf81
  v53 := Try.zeroValue81
  t55 := Try.underlying23
  a55 := Try.isAgg23
  z55 := Try.sizeOf23
  v55 := Try.zeroValue23
  t66 := Try.underlying177
  a66 := Try.isAgg177
  z66 := Try.sizeOf177
  v66 := Try.zeroValue177
  t70 := Try.underlying181
  a70 := Try.isAgg181
  z70 := Try.sizeOf181
  v70 := Try.zeroValue181
  t76 := Try.underlying186
  a76 := Try.isAgg186
  z76 := Try.sizeOf186
  v76 := Try.zeroValue186
  t77 := Try.underlying50
  a77 := Try.isAgg50
  z77 := Try.sizeOf50
  v77 := Try.zeroValue50 }
/-! bytes compared -/
theorem cmp_lt : ∀ (l m : List UInt8), decide (Lib.compareBytes l m < 0) = lessB l m
  | [], [] => by simp [Lib.compareBytes, lessB]
  | [], y :: m => by simp [Lib.compareBytes, lessB]
  | x :: l, [] => by simp [Lib.compareBytes, lessB]
  | x :: l, y :: m => by
    unfold Lib.compareBytes lessB
    by_cases h : x = y
    · subst h
      have hlt : ¬ x < x := UInt8.lt_irrefl x
      simp only [hlt, if_false, if_true]
      exact cmp_lt l m
    · rw [if_neg h]
      by_cases hlt : x < y
      · simp [hlt]
      · have : y < x := UInt8.lt_of_le_of_ne (UInt8.not_lt.1 hlt) (Ne.symm h)
        simp [hlt, this]
theorem lessB_irrefl (l : List UInt8) : lessB l l = false := by rw [lessB_iff]; simp
theorem lessB_tr {a b c : List UInt8} (h1 : lessB a b = true) (h2 : lessB b c = true) : lessB a c = true := by
  rw [lessB_iff] at *
  simp only [decide_eq_true_eq] at *
  exact List.lt_trans h1 h2
theorem lessB_ntr {a b c : List UInt8} (h1 : lessB a b = false) (h2 : lessB b c = false) : lessB a c = false := by
  rw [lessB_iff] at *
  simp only [decide_eq_false_iff_not, List.not_lt] at *
  exact List.le_trans h2 h1
theorem lessB_total {a b : List UInt8} (h1 : lessB a b = false) (h2 : lessB b a = false) : a = b := by
  rw [lessB_iff] at *
  simp only [decide_eq_false_iff_not, List.not_lt] at *
  exact List.le_antisymm h2 h1
/-- the closure -/
theorem setsCmp_any (A C : Option Addr) (a c : Nat) (k m : List UInt8) (v1 g1 v2 g2 : Value) (W : World) (o1 : v1.oneCell' = true) (o2 : v2.oneCell' = true) (h1 : Bs W A a k) (h2 : Bs W C c m) :
    Calls Try.prog 73 #[.agg #[.slice A k.length a, v1, g1], .agg #[.slice C m.length c, v2, g2]] W (fun e w' => e = .returned (.int .i64 (Lib.compareBytes k m)) ∧ ∃ q os', w' = grow (W.drewN q) os') := by
  have hb1 := below_alloc (Below.refl W.heap.size W) (.cells #[.slice A k.length a, v1, g1] 130)
  have hb2 := below_alloc hb1 (.cells #[.slice C m.length c, v2, g2] 130)
  have BC := Lib.hid (bytesCompare A C a c k m _ (h1.below hb2) (h2.below hb2))
  have q1 := blk_alloc (blk_new W (.cells #[.slice A k.length a, v1, g1] 130)) (.cells #[.slice C m.length c, v2, g2] 130)
  have p0 := (blk_cell q1 0).trans (b := some (Value.slice A k.length a)) rfl
  have q2 : ((W.alloc (.cells #[.slice A k.length a, v1, g1] 130)).alloc (.cells #[.slice C m.length c, v2, g2] 130)).heap[W.heap.size + 1]? = some (.cells #[.slice C m.length c, v2, g2] 130 (0, 0)) := by
    have := blk_new (W.alloc (.cells #[.slice A k.length a, v1, g1] 130)) (.cells #[.slice C m.length c, v2, g2] 130)
    simpa using this
  have p1 := (blk_cell q2 0).trans (b := some (Value.slice C m.length c)) rfl
  clear hb1 hb2 q1 q2 h1 h2
  generalize Lib.compareBytes k m = r at *
  go_enter Try.func73, Try.ntmps73
  go_wp2_with (go_at_call 74; refine BC.out.mono ?_; rintro e w' ⟨rfl, rfl⟩)
  go_ret
  exact ⟨rfl, 0, _, by rw [alloc_eq_grow, alloc_eq_grow, grow_grow]; rfl⟩
end Go.Proofs.Ytgbjhlkjceonpaa.Lst
/- The sort of sets by their keys: the contract. -/
namespace Go.Proofs.Ytgbjhlkjceonpaa.Lst
open Go.RowKit Go.Sort Go.Shelf Go.Proofs.Ytgbjhlkjceonpaa.K Go.Proofs.Ytgbjhlkjceonpaa.Help Go.Proofs.Ytgbjhlkjceonpaa.Pfx Go.Proofs.Ytgbjhlkjceonpaa.Peer
set_option linter.unusedVariables false

def sortS (l : List SetD) : List SetD := l.mergeSort (fun x y => !lessB y.1 x.1)
section
variable {α : Type} [Inhabited α] {enc : α → List Value}
theorem sorted_only {W : World} {g n : Nat} {k : Nat} (d : Array α) (os : Array Obj) : Only W (sortWorldK enc k W g 0 n d os) (fun i => i = g) := by
  refine ⟨rfl, rfl, rfl, by simp [sortWorldK, putRowK, putRow, mapBlock, Sort.ahead, grow], fun i hi hne => ?_⟩
  unfold sortWorldK
  rw [heap_grow_old _ _ (by simpa [putRowK, putRow, mapBlock, Sort.ahead] using hi)]
  have : g ≠ i := fun e => hne e.symm
  simp [putRowK, putRow, mapBlock, Sort.ahead, Array.getElem?_modify, this]
theorem sorted_blk {W : World} {g n : Nat} {k : Nat} {cur : Array Value} {t : TypeId} {fr : Nat × Nat} (d : Array α) (os : Array Obj) (hb : W.heap[g]? = some (.cells cur t fr)) :
    (sortWorldK enc k W g 0 n d os).heap[g]? = some (.cells (putCells id 0 (flatK enc k d) cur) t fr) := by
  have hg : g < W.heap.size := blk_lt hb
  unfold sortWorldK
  rw [heap_grow_old _ _ (by simpa [putRowK, putRow, mapBlock, Sort.ahead] using hg)]
  simp [putRowK, putRow, mapBlock, Sort.ahead, Array.getElem?_modify, hb, onCells]
theorem flat_len {k : Nat} : ∀ (raws : List (List Value)), (∀ r, r ∈ raws → r.length = k) → raws.flatten.length = raws.length * k
  | [], _ => by simp
  | r :: t, h => by
    rw [List.flatten_cons, List.length_append, flat_len t (fun x hx => h x (by simp [hx])), h r (by simp), List.length_cons, Nat.succ_mul]
    omega
theorem flatK_eq {k : Nat} (hk : ∀ x, (enc x).length = k) (hk0 : 0 < k) (d : Array α) : (flatK enc k d).toList = (d.toList.map enc).flatten := by
  apply List.ext_getElem?
  intro t
  have hl : (d.toList.map enc).flatten.length = d.size * k := by
    rw [flat_len (k := k) _ (fun r hr => by obtain ⟨x, _, rfl⟩ := List.mem_map.1 hr; exact hk x)]
    simp
  by_cases ht : t < d.size * k
  · have hd : t / k < d.size := Nat.div_lt_of_lt_mul (by rw [Nat.mul_comm]; exact ht)
    have hm : t % k < k := Nat.mod_lt _ hk0
    have h1 := flat_at (sz := k) (raws := d.toList.map enc) (fun r hr => by obtain ⟨x, _, rfl⟩ := List.mem_map.1 hr; exact hk x) (t / k) (t % k) (enc d[t / k]) (by simp [hd]) hm
    have ht2 : t / k * k + t % k = t := by rw [Nat.mul_comm]; exact Nat.div_add_mod t k
    rw [ht2] at h1
    rw [h1]
    have h2 : (flatK enc k d).toList[t]? = some ((enc d[t / k]!)[t % k]!) := by
      rw [Array.getElem?_toList]
      simp [flatK, ht]
    rw [h2, getElem!_pos d (t / k) hd, getElem!_pos (enc d[t / k]) (t % k) (by rw [hk]; exact hm), List.getElem?_eq_getElem (by rw [hk]; exact hm)]
  · rw [List.getElem?_eq_none (by simp; omega), List.getElem?_eq_none (by rw [hl]; omega)]
end
theorem put_take (F cur : Array Value) (p : Nat) (hp : F.size = p) (h : p ≤ cur.size) : (putCells id 0 F cur).toList.take p = F.toList := by
  apply List.ext_getElem?
  intro j
  by_cases hj : j < p
  · rw [List.getElem?_take_of_lt hj, Array.getElem?_toList, Array.getElem?_toList]
    simp [putCells, show j < F.size by omega, show j < cur.size by omega]
  · rw [List.getElem?_take_eq_none (by omega), List.getElem?_eq_none (by simp; omega)]
set_option maxHeartbeats 1000000 in
theorem sortSets_gen (f : FuncId) (eg : ∀ args w, (callFunc f args).run Try.prog w = .ok (.enter f args) w)
    (hCF : ∀ (A C : Option Addr) (a c : Nat) (k m : List UInt8) (v1 g1 v2 g2 : Value) (W : World), v1.oneCell' = true → v2.oneCell' = true → Bs W A a k → Bs W C c m → Calls Try.prog f #[.agg #[.slice A k.length a, v1, g1], .agg #[.slice C m.length c, v2, g2]] W (fun e w' => e = .returned (.int .i64 (Lib.compareBytes k m)) ∧ ∃ q os', w' = grow (W.drewN q) os'))
    (W : World) (B : Nat) (v : Value) (l : List SetD) (hO : OwnL SetE 130 W (fun _ => False) B v l) (hn : (l.map Prod.fst).Nodup) :
    Calls Try.prog 72 #[v, .func (.func f) #[] #[]] W (fun e w' => e = .returned (.tuple #[]) ∧ OwnL SetE 130 w' (fun _ => False) B v (sortS l) ∧ Only W w' (fun i => v.ownBlock = some i)) := by
  rcases hl : l with _ | ⟨x0, t⟩
  · subst hl
    obtain ⟨A, c, rfl⟩ := hO.slice
    have h : Calls Try.prog 72 #[.slice A 0 c, .func (.func f) #[] #[]] W _ := AnyF.slices_SortFunc_none sortSet A c _ W
    refine h.mono ?_
    rintro e w' ⟨rfl, rfl⟩
    exact ⟨rfl, by simpa [sortS] using hO, Only.refl _ _⟩
  · rw [← hl]
    have hlen : l.length = t.length + 1 := by rw [hl]; rfl
    clear hl
    obtain ⟨raws, hr, hown, hm, hR⟩ := hO
    rcases hown.2 with ⟨_, h0⟩ | ⟨g, cap, cur, rfl, hbase, hb, h1, h2, h3, h4⟩
    · omega
    have hsh : ∀ i : Fin (t.length + 1), SetR W (fun k => (fun _ => False) k ∨ (Value.slice (some ⟨g, 0, none⟩) l.length cap).ownBlock = some k) (raws.getD i.val []) (l.getD i.val zeroSet) := fun i => by
      have e1 : l[i.val]? = some (l.getD i.val zeroSet) := getD_get zeroSet (by omega)
      have e2 : raws[i.val]? = some (raws.getD i.val []) := getD_get [] (by omega)
      exact hR i.val _ _ e1 e2
    obtain ⟨enc, he⟩ : ∃ enc : Fin (t.length + 1) → List Value, ∀ i, enc i = raws.getD i.val [] := ⟨_, fun _ => rfl⟩
    obtain ⟨dat, hdt⟩ : ∃ dat : Fin (t.length + 1) → SetD, ∀ i, dat i = l.getD i.val zeroSet := ⟨_, fun _ => rfl⟩
    have hsh2 : ∀ i, SetR W (fun k => k = g) (enc i) (dat i) := fun i => by
      rw [he, hdt]
      exact SetE.reno (hsh i) (fun k hk => .inl (.inr (by rw [hk]; rfl)))
    have hk : ∀ i, (enc i).length = 3 := fun i => SetE.len (hsh2 i)
    have hone : ∀ i, ∀ u ∈ enc i, u.oneCell' = true := fun i => SetE.one (hsh2 i)
    obtain ⟨cf, hcf⟩ : ∃ cf : Fin (t.length + 1) → Fin (t.length + 1) → Int, ∀ i j, cf i j = Lib.compareBytes (dat i).1 (dat j).1 := ⟨_, fun _ _ => rfl⟩
    have hlt : ∀ i j, ltOf cf i j = lessB (dat i).1 (dat j).1 := fun i j => by unfold ltOf; rw [hcf, cmp_lt]
    have hO : SWO (ltOf cf) := ⟨fun x => by rw [hlt]; exact lessB_irrefl _, fun x y z a b => by rw [hlt] at *; exact lessB_tr a b, fun x y z a b => by rw [hlt] at *; exact lessB_ntr a b⟩
    obtain ⟨d, hd⟩ : ∃ d : Array (Fin (t.length + 1)), d = Array.ofFn (fun i => i) := ⟨_, rfl⟩
    have hds : d.size = l.length := by rw [hd, hlen]; simp
    have hdi : ∀ i (h : i < t.length + 1), d.toList[i]? = some ⟨i, h⟩ := fun i h => by
      rw [hd, Array.getElem?_toList, Array.getElem?_eq_getElem (by simpa using h), Array.getElem_ofFn]
    have hdn : ∀ i, ¬ i < t.length + 1 → d.toList[i]? = none := fun i h => by
      rw [Array.getElem?_toList]; exact Array.getElem?_eq_none (by omega)
    have hdl : d.toList.map enc = raws := by
      apply List.ext_getElem?
      intro i
      rw [List.getElem?_map]
      by_cases h : i < t.length + 1
      · rw [hdi i h, Option.map_some, he]
        exact (getD_get [] (by omega)).symm
      · rw [hdn i h, List.getElem?_eq_none (by omega)]; rfl
    have hdd : d.toList.map dat = l := by
      apply List.ext_getElem?
      intro i
      rw [List.getElem?_map]
      by_cases h : i < t.length + 1
      · rw [hdi i h, Option.map_some, hdt]
        exact (getD_get zeroSet (by omega)).symm
      · rw [hdn i h, List.getElem?_eq_none (by omega)]; rfl
    have hF : (flatK enc 3 d).toList = raws.flatten := by rw [flatK_eq hk (by decide), hdl]
    have hcmp : CmpLays Try.prog f #[] enc 3 cf g 0 d.size W := by
      intro m os dk _ x y
      obtain ⟨A, a, C, c, ex, s1, s2⟩ := hsh2 x
      obtain ⟨A', a', C', c', ey, u1, u2⟩ := hsh2 y
      have k := sorted_only (enc := enc) (W := W) (g := g) (n := m) (k := 3) dk os
      have hc := hCF A A' a a' (dat x).1 (dat y).1 (.slice C (dat x).2.1.length c) (.bool (dat x).2.2) (.slice C' (dat y).2.1.length c') (.bool (dat y).2.2) (sortWorldK enc 3 W g 0 m dk os) rfl rfl (s1.only k (fun i _ h => h)).1 (u1.only k (fun i _ h => h)).1
      rw [← hcf] at hc
      rw [ex, ey]
      exact hc
    have hH : HoldsK enc 3 W g 0 d := by
      intro j hj
      rw [Nat.zero_add]
      refine ⟨(blk_cell hb j).trans ?_, blk_free hb j⟩
      have hj2 : j < l.length * 3 := by rw [size_flatK, hds] at hj; exact hj
      have e1 : (cur.toList.take (l.length * 3))[j]? = raws.flatten[j]? := by rw [show cur.toList.take (l.length * 3) = raws.flatten from h4]
      rw [List.getElem?_take_of_lt hj2, Array.getElem?_toList, ← hF, Array.getElem?_toList] at e1
      rw [e1, Array.getElem?_eq_getElem hj, getElem!_pos _ j hj]
      rfl
    have hT : ∀ x y, ltOf cf x y = false → ltOf cf y x = false → x = y := fun x y a b => by
      rw [hlt] at a b
      have hke := lessB_total a b
      rw [hdt, hdt] at hke
      have hx : x.val < l.length := by omega
      have hy : y.val < l.length := by omega
      have ex : l.getD x.val zeroSet = l[x.val] := by simp [hx]
      have ey : l.getD y.val zeroSet = l[y.val] := by simp [hy]
      rw [ex, ey] at hke
      have hp := List.pairwise_iff_getElem.1 (List.nodup_iff_pairwise_ne.1 hn)
      apply Fin.ext
      rcases Nat.lt_trichotomy x.val y.val with h | h | h
      · exact absurd (by rw [List.getElem_map, List.getElem_map]; exact hke) (hp x.val y.val (by simpa using hx) (by simpa using hy) h)
      · exact h
      · exact absurd (by rw [List.getElem_map, List.getElem_map]; exact hke.symm) (hp y.val x.val (by simpa using hy) (by simpa using hx) h)
    have hc := AnyQ.slices_SortFunc_total sortSet 3 Try.isAgg130 Try.sizeOf130 enc hk hone cf hO f #[] g 0 cap d W eg hcmp hH (blk_lt hb) (by rw [hds]; omega) hT
    rw [hds] at hc
    change Calls Try.prog 72 _ _ _ at hc
    refine hc.mono ?_
    rintro e w' ⟨rfl, nn, os, hw⟩
    have hp : (d.toList.mergeSort fun x y => !ltOf cf y x).Perm d.toList := List.mergeSort_perm _ _
    have hsl : (d.toList.mergeSort fun x y => !ltOf cf y x).map dat = sortS l := by
      unfold sortS
      rw [List.map_mergeSort (s := fun x y => !lessB y.1 x.1) (fun a _ b _ => by rw [hlt]), hdd]
    generalize (d.toList.mergeSort fun x y => !ltOf cf y x) = dl at *
    have hdll : dl.length = l.length := by rw [hp.length_eq]; simp [hds]
    have k := sorted_only (enc := enc) (W := W) (g := g) (n := nn) (k := 3) dl.toArray os
    have hb' := sorted_blk (enc := enc) (n := nn) (k := 3) dl.toArray os hb
    rw [← hw] at k hb'
    have hF' : (flatK enc 3 dl.toArray).toList = (dl.map enc).flatten := by rw [flatK_eq hk (by decide)]
    have hfs : (flatK enc 3 dl.toArray).size = l.length * 3 := by rw [size_flatK]; simp [hdll]
    refine ⟨rfl, ⟨dl.map enc, by rw [← hsl]; simp, ?_, by rw [← hsl]; simp [hdll]; omega, fun i x raw hx hraw => ?_⟩, k.mono (fun i _ h => by rw [h]; rfl)⟩
    · rw [← hsl, List.length_map, hdll]
      refine ⟨?_, .inr ⟨g, cap, _, rfl, hbase, hb', h1, h2, by simp [putCells, h3], ?_⟩⟩
      · rw [← hF']; simp [hdll]; rfl
      · rw [← hF']; exact put_take _ _ _ hfs (by rw [h3]; exact Nat.mul_le_mul_right _ h1)
    · rw [← hsl, List.getElem?_map] at hx
      rw [List.getElem?_map] at hraw
      obtain ⟨q, hq, rfl⟩ := Option.map_eq_some_iff.1 hx
      rw [hq] at hraw
      simp only [Option.map_some, Option.some.injEq] at hraw
      subst hraw
      exact SetE.reno (SetE.only (hsh2 q) k (fun i _ h => h)) (fun i hi => .inl (by
        rcases hi with hi | hi
        · exact hi.elim
        · have : g = i := by simpa [Value.ownBlock] using hi
          exact this.symm))
theorem sortSets_any (W : World) (B : Nat) (v : Value) (l : List SetD) (hO : OwnL SetE 130 W (fun _ => False) B v l) (hn : (l.map Prod.fst).Nodup) :
    Calls Try.prog 72 #[v, .func (.func 73) #[] #[]] W (fun e w' => e = .returned (.tuple #[]) ∧ OwnL SetE 130 w' (fun _ => False) B v (sortS l) ∧ Only W w' (fun i => v.ownBlock = some i)) :=
  sortSets_gen 73 (enters_of Try.func73 (by kernel_rfl) rfl) setsCmp_any W B v l hO hn
end Go.Proofs.Ytgbjhlkjceonpaa.Lst
/- The program's sets are the document's (plain). -/
namespace Go.Proofs.Ytgbjhlkjceonpaa.Lst
open Go.RowKit Go.Proofs.Ytgbjhlkjceonpaa.K Go.Proofs.Ytgbjhlkjceonpaa.Help Go.Proofs.Ytgbjhlkjceonpaa.Pfx Go.Proofs.Ytgbjhlkjceonpaa.Peer
set_option linter.unusedVariables false

def fA (was : List RowD) (r : RowD) : Option SetD := if (hasK was r.1 && decide (valOf was r.1 = r.2)) = true then none else some (r.1, r.2, false)
def fB (is_ : List RowD) (r : RowD) : Option SetD := if hasK is_ r.1 = true then none else some (r.1, [], true)
def stepPA (was is_ : List RowD) (s : List SetD) (k : List UInt8) : List SetD := if (hasK was k && decide (valOf was k = valOf is_ k)) = true then s else s ++ [(k, valOf is_ k, false)]
def stepPB (is_ : List RowD) (s : List SetD) (k : List UInt8) : List SetD := if hasK is_ k = true then s else s ++ [(k, [], true)]
def rawSets (was is_ : List RowD) : List SetD := (keysL was).foldl (stepPB is_) ((keysL is_).foldl (stepPA was is_) [])
theorem stepPA_len (was is_ : List RowD) (s : List SetD) (k : List UInt8) : (stepPA was is_ s k).length ≤ s.length + 1 := by
  unfold stepPA
  split
  · omega
  · simp
theorem stepPB_len (is_ : List RowD) (s : List SetD) (k : List UInt8) : (stepPB is_ s k).length ≤ s.length + 1 := by
  unfold stepPB
  split
  · omega
  · simp
theorem foldPA (was is_ : List RowD) : ∀ (ks : List (List UInt8)) (s : List SetD), ks.foldl (stepPA was is_) s = s ++ (ks.map (fun k => (k, valOf is_ k))).filterMap (fA was)
  | [], s => by simp
  | k :: t, s => by
    rw [List.foldl_cons, foldPA was is_ t, List.map_cons, List.filterMap_cons]
    unfold stepPA fA
    dsimp only
    by_cases h : (hasK was k && decide (valOf was k = valOf is_ k)) = true
    · rw [if_pos h, if_pos h]
    · rw [if_neg h, if_neg h]; simp
theorem foldPB (was is_ : List RowD) : ∀ (ks : List (List UInt8)) (s : List SetD), ks.foldl (stepPB is_) s = s ++ (ks.map (fun k => (k, valOf was k))).filterMap (fB is_)
  | [], s => by simp
  | k :: t, s => by
    rw [List.foldl_cons, foldPB was is_ t, List.map_cons, List.filterMap_cons]
    unfold stepPB fB
    dsimp only
    by_cases h : hasK is_ k = true
    · rw [if_pos h, if_pos h]
    · rw [if_neg h, if_neg h]; simp
theorem raw_eq (was is_ : List RowD) : rawSets was is_ = (rowsL is_).filterMap (fA was) ++ (rowsL was).filterMap (fB is_) := by
  unfold rawSets rowsL
  rw [foldPA, foldPB, List.nil_append]
theorem foldA (was : List RowD) : ∀ (l : List RowD) (s : List SetD), l.foldl (stepA was) s = (l.filterMap (fA was)).foldl (layG ltS) s
  | [], s => rfl
  | r :: t, s => by
    rw [List.foldl_cons, foldA was t, List.filterMap_cons]
    unfold stepA fA
    by_cases h : (hasK was r.1 && decide (valOf was r.1 = r.2)) = true
    · rw [if_pos h, if_pos h]
    · rw [if_neg h, if_neg h]; rfl
theorem foldB (is_ : List RowD) : ∀ (l : List RowD) (s : List SetD), l.foldl (stepB is_) s = (l.filterMap (fB is_)).foldl (layG ltS) s
  | [], s => rfl
  | r :: t, s => by
    rw [List.foldl_cons, foldB is_ t, List.filterMap_cons]
    unfold stepB fB
    by_cases h : hasK is_ r.1 = true
    · rw [if_pos h, if_pos h]
    · rw [if_neg h, if_neg h]; rfl
theorem setsOf_eq (was is_ : List RowD) : setsOf was is_ = (is_.filterMap (fA was) ++ was.filterMap (fB is_)).foldl (layG ltS) [] := by
  unfold setsOf
  rw [foldA, foldB, List.foldl_append]
theorem hasK_mem {l : List RowD} {k : List UInt8} : hasK l k = true ↔ k ∈ l.map Prod.fst := by
  unfold hasK
  rw [List.any_eq_true, List.mem_map]
  constructor
  · rintro ⟨r, h1, h2⟩; exact ⟨r, h1, by simpa using h2⟩
  · rintro ⟨r, h1, h2⟩; exact ⟨r, h1, by simpa using h2⟩
theorem fA_some {was : List RowD} {r : RowD} {s : SetD} (h : fA was r = some s) : s = (r.1, r.2, false) ∧ ¬ (hasK was r.1 = true ∧ valOf was r.1 = r.2) := by
  unfold fA at h
  by_cases h1 : (hasK was r.1 && decide (valOf was r.1 = r.2)) = true
  · rw [if_pos h1] at h; cases h
  · rw [if_neg h1] at h; injection h with h; exact ⟨h.symm, by simpa using h1⟩
theorem fB_some {is_ : List RowD} {r : RowD} {s : SetD} (h : fB is_ r = some s) : s = (r.1, [], true) ∧ hasK is_ r.1 = false := by
  unfold fB at h
  by_cases h1 : hasK is_ r.1 = true
  · rw [if_pos h1] at h; cases h
  · rw [if_neg h1] at h; injection h with h; exact ⟨h.symm, by simpa using h1⟩
theorem fm_sub {f : RowD → Option SetD} (hf : ∀ r s, f r = some s → s.1 = r.1) : ∀ l : List RowD, ((l.filterMap f).map Prod.fst).Sublist (l.map Prod.fst)
  | [] => by simp
  | r :: t => by
    rw [List.filterMap_cons, List.map_cons]
    cases h : f r with
    | none => exact (fm_sub hf t).cons _
    | some s => rw [List.map_cons, hf r s h]; exact (fm_sub hf t).cons_cons _
theorem all_nodup {was is_ : List RowD} (h1 : (was.map Prod.fst).Nodup) (h2 : (is_.map Prod.fst).Nodup) : ((is_.filterMap (fA was) ++ was.filterMap (fB is_)).map Prod.fst).Nodup := by
  rw [List.map_append, List.nodup_append]
  refine ⟨h2.sublist (fm_sub (fun r s h => by rw [(fA_some h).1]) _), h1.sublist (fm_sub (fun r s h => by rw [(fB_some h).1]) _), ?_⟩
  intro a ha b hb e
  subst e
  obtain ⟨s, hs, rfl⟩ := List.mem_map.1 ha
  obtain ⟨u, hu, e⟩ := List.mem_map.1 hb
  obtain ⟨r, hr, er⟩ := List.mem_filterMap.1 hs
  obtain ⟨q, hq, eq⟩ := List.mem_filterMap.1 hu
  have e1 := (fA_some er).1
  have e2 := fB_some eq
  rw [e2.1, e1] at e
  have : hasK is_ q.1 = true := hasK_mem.2 (List.mem_map.2 ⟨r, hr, by simpa using e.symm⟩)
  rw [this] at e2
  exact absurd e2.2 (by simp)
theorem one_fst {α β : Type} {l : List (α × β)} (hn : (l.map Prod.fst).Nodup) {r q : α × β} (hr : r ∈ l) (hq : q ∈ l) (h : r.1 = q.1) : r = q := by
  induction l with
  | nil => cases hr
  | cons x t ih =>
    rw [List.map_cons, List.nodup_cons] at hn
    rcases List.mem_cons.1 hr with e1 | hr2
    · rcases List.mem_cons.1 hq with e2 | hq2
      · rw [e1, e2]
      · exact absurd (List.mem_map.2 ⟨q, hq2, by rw [← h, e1]⟩) hn.1
    · rcases List.mem_cons.1 hq with e2 | hq2
      · exact absurd (List.mem_map.2 ⟨r, hr2, by rw [h, e2]⟩) hn.1
      · exact ih hn.2 hr2 hq2
theorem raw_perm {was is_ : List RowD} (h1 : (was.map Prod.fst).Nodup) (h2 : (is_.map Prod.fst).Nodup) : (rawSets was is_).Perm (is_.filterMap (fA was) ++ was.filterMap (fB is_)) := by
  rw [raw_eq]
  exact ((rowsL_perm h2).filterMap _).append ((rowsL_perm h1).filterMap _)
theorem raw_nodup {was is_ : List RowD} (h1 : (was.map Prod.fst).Nodup) (h2 : (is_.map Prod.fst).Nodup) : ((rawSets was is_).map Prod.fst).Nodup :=
  ((raw_perm h1 h2).map _).nodup_iff.2 (all_nodup h1 h2)
theorem ltS_asym (a b : SetD) (h : ltS a b = true) : ltS b a = false := by
  unfold ltS at *
  cases e : lessB b.1 a.1 with
  | false => rfl
  | true => have := lessB_tr h e; rw [lessB_irrefl] at this; cases this
theorem ltS_tr (a b c : SetD) (h1 : ltS b a = false) (h2 : ltS c b = false) : ltS c a = false := lessB_ntr h2 h1
theorem sortS_perm (l : List SetD) : (sortS l).Perm l := List.mergeSort_perm _ _
theorem sortS_sorted (l : List SetD) : (sortS l).Pairwise (fun a b => ltS b a = false) := by
  have tr : ∀ a b c : SetD, (!lessB b.1 a.1) = true → (!lessB c.1 b.1) = true → (!lessB c.1 a.1) = true := fun a b c h1 h2 => by
    simp only [Bool.not_eq_true'] at *
    exact lessB_ntr h2 h1
  have tot : ∀ a b : SetD, ((!lessB b.1 a.1) || (!lessB a.1 b.1)) = true := fun a b => by
    cases e : lessB b.1 a.1 with
    | false => rfl
    | true => have h := ltS_asym b a e; unfold ltS at h; rw [h]; rfl
  exact (List.pairwise_mergeSort tr tot l).imp (fun h => by simpa [ltS] using h)
theorem progSets_eq {was is_ : List RowD} (h1 : (was.map Prod.fst).Nodup) (h2 : (is_.map Prod.fst).Nodup) : sortS (rawSets was is_) = setsOf was is_ := by
  rw [setsOf_eq]
  obtain ⟨s1, p1⟩ := fold_ins ltS_asym ltS_tr (is_.filterMap (fA was) ++ was.filterMap (fB is_)) [] List.Pairwise.nil
  rw [List.nil_append] at p1
  have p2 := (sortS_perm (rawSets was is_)).trans (raw_perm h1 h2)
  refine List.Perm.eq_of_pairwise (le := fun a b => ltS b a = false) (fun a b ha hb e1 e2 => ?_) (sortS_sorted _) s1 (p2.trans p1.symm)
  exact one_fst (all_nodup h1 h2) (p2.mem_iff.1 ha) (p1.mem_iff.1 hb) (lessB_total e2 e1)
end Go.Proofs.Ytgbjhlkjceonpaa.Lst
/- The walk of rows.state. -/
namespace Go.Proofs.Ytgbjhlkjceonpaa.Lst
open Go.RowKit Go.Proofs.Ytgbjhlkjceonpaa.K Go.Proofs.Ytgbjhlkjceonpaa.Help Go.Proofs.Ytgbjhlkjceonpaa.Pfx Go.Proofs.Ytgbjhlkjceonpaa.Peer
set_option linter.unusedVariables false

set_option maxRecDepth 100000 in
set_option maxHeartbeats 8000000 in
theorem mapState_any (A B : Option Addr) (a b : Nat) (ps : List PeerD) (ls : List LaneD) (w : World) (hp : Lst PeerE w (fun _ => False) A a ps) (hq : Lst LaneE w (fun _ => False) B b ls) (hn : ps.length ≤ 400) (hm : ls.length ≤ 400) :
    Calls Try.prog 69 #[.slice A ps.length a, .slice B ls.length b] w (RetM w (rowsPL ps ls) (goodPL ps ls && !twiceB (rowsPL ps ls))) := by
  have HP := Lib.hid hp
  have HQ := Lib.hid hq
  have h1 := hp.le
  have h2 := hp.max
  have h3 := hq.le
  have h4 := hq.max
  clear hp hq
  have HB0 := Lib.hid (below_alloc (Below.refl w.heap.size w) (.map #[] 0))
  have HM0 : Hid (GMap (w.alloc (.map #[] 0)) w.heap.size []) := Lib.hid ⟨World.ownsMap_made w _ _ _, by simp⟩
  generalize hr : (goodPL ps ls && !twiceB (rowsPL ps ls)) = res
  have HR := Lib.hid hr
  clear hr
  have hgd := fun h : goodPL ps ls = true => h
  clear hgd
  generalize hnn : ps.length = n at *
  have HN := Lib.hid hnn
  generalize hmm : ls.length = m at *
  have HM := Lib.hid hmm
  clear hnn hmm
  have hmk : (Instr.makeMap 123 none).run Try.prog w = .ok (.map (some w.heap.size)) (w.alloc (.map #[] 0)) := rfl
  go_enter Try.func69, Try.ntmps69
  go_wp2_with fail
  go_loopg [18] n (fun gk i wr => ∃ (k : Nat) (rs : List GRow), k ≤ n ∧ gk = n - k ∧ i = .int .i64 (k : Int) ∧ Hid (GMap wr w.heap.size rs) ∧ Hid (GOf wr ((rowsPL ps ls).take k) rs) ∧ Hid ((ps.take k).all okP = true) ∧ Hid (rs.length = k) ∧ Below w.heap.size w wr)
  case atStart => exact ⟨0, [], by omega, rfl, rfl, HM0, GOf.nil _, rfl, rfl, HB0.out⟩
  case round =>
    clear HB0 HM0 hmk
    obtain ⟨k, rs, hk, rfl, rfl, HG, HO, HA, HRL, hb⟩ := hrel
    have HW := Lib.hid hb
    clear hb
    by_cases hlt : k < n
    · have i1 : (k : Int) < (n : Int) := by omega
      have i0 : (0 : Int) ≤ (k : Int) := by omega
      have HT := Lib.hid (take_row (rowsPL ps ls) (k) (by rw [rowsPL_len, HN.out]; omega))
      have HGR := Lib.hid (rowsPL_p (ls := ls) (k := k) (by rw [HN.out]; exact hlt))
      have HBD := Lib.hid (bad_p (ps := ps) (ls := ls) (k := k) (by rw [HN.out]; exact hlt))
      have HDU := Lib.hid (fun h => dup_at (l := rowsPL ps ls) (i := k) (by rw [rowsPL_len, HN.out]; omega) h)
      obtain ⟨bk, off, A1, a1, B1, b1, rfl, hbk, c0, c1, c2, s1, s2⟩ := HP.out.peer k _ (getD_get zeroPeer (by rw [HN.out]; exact hlt))
      have HTA := Lib.hid (take_all okP zeroPeer ps k (by rw [HN.out]; exact hlt))
      rw [HA.out] at HTA
      obtain ⟨x, hx⟩ : ∃ y, ps.getD k zeroPeer = y := ⟨_, rfl⟩
      rw [hx] at c0 c1 c2 s1 s2 HGR HBD HTA
      rw [show rowP x = ((putPeer x).1, (putPeer x).2.1) from rfl] at HGR
      rw [show okP x = ((putPeer x).2.2 == 0) from rfl] at HBD HTA
      rw [HGR.out] at HT HDU
      have y0 : wr.cell? ⟨bk, off + k * 3, none⟩ = some (.int .i64 x.link) := (HW.out.cell (p := ⟨bk, _, none⟩) hbk).trans c0
      have y1 : wr.cell? ⟨bk, off + k * 3 + 1, none⟩ = some (.slice A1 x.key.length a1) := (HW.out.cell (p := ⟨bk, _, none⟩) hbk).trans c1
      have y2 : wr.cell? ⟨bk, off + k * 3 + 2, none⟩ = some (.slice B1 x.ps.length b1) := (HW.out.cell (p := ⟨bk, _, none⟩) hbk).trans c2
      have HBX := Lib.hid (below_alloc (Below.refl wr.heap.size wr) (.cells #[.int .i64 x.link, .slice A1 x.key.length a1, .slice B1 x.ps.length b1] 55))
      have q0 := blk_new wr (.cells #[.int .i64 x.link, .slice A1 x.key.length a1, .slice B1 x.ps.length b1] 55)
      have bb0 := (blk_cell q0 0).trans (b := some (Value.int .i64 x.link)) rfl
      have bb1 := (blk_cell q0 1).trans (b := some (Value.slice A1 x.key.length a1)) rfl
      have bb2 := (blk_cell q0 2).trans (b := some (Value.slice B1 x.ps.length b1)) rfl
      have P := Lib.hid (putPeer_any A1 B1 a1 b1 x (wr.alloc (.cells #[.int .i64 x.link, .slice A1 x.key.length a1, .slice B1 x.ps.length b1] 55)) ((s1.1.below HW.out).below (below_alloc (Below.refl _ _) (.cells #[.int .i64 x.link, .slice A1 x.key.length a1, .slice B1 x.ps.length b1] 55))) ((s2.1.below HW.out).below (below_alloc (Below.refl _ _) (.cells #[.int .i64 x.link, .slice A1 x.key.length a1, .slice B1 x.ps.length b1] 55))))
      unfold peerV at P
      generalize hpp : putPeer x = pp at HT HGR HBD HDU HTA P
      obtain ⟨pk, pv, pc⟩ := pp
      dsimp only at HT HGR HBD HDU HTA P
      clear c0 c1 c2 s1 s2 hx hpp q0 HGR
      go_wp2_with fail
      refine P.out.mono ?_
      rintro e w2 ⟨v1, v2, rfl, o1, o2, hb2⟩
      obtain ⟨A2, a2, rfl, t1⟩ := o1.bs
      obtain ⟨A3, a3, rfl, t2⟩ := o2.bs
      have hq1 := below_alloc (below_step HBX.out hb2) (.cells #[.slice A2 pk.length a2, .slice A3 pv.length a3] 29)
      have hq0 := below_alloc (Below.refl w2.heap.size w2) (.cells #[.slice A2 pk.length a2, .slice A3 pv.length a3] 29)
      have p0 := (blk_cell (blk_new w2 (.cells #[.slice A2 pk.length a2, .slice A3 pv.length a3] 29)) 0).trans (b := some (Value.slice A2 pk.length a2)) rfl
      have p1 := (blk_cell (blk_new w2 (.cells #[.slice A2 pk.length a2, .slice A3 pv.length a3] 29)) 1).trans (b := some (Value.slice A3 pv.length a3)) rfl
      have HW2 := Lib.hid (below_step HW.out hq1)
      have G2 := Lib.hid (HG.out.keep hq1)
      have O2 := Lib.hid (HO.out.below hq1)
      have T1 := Lib.hid (t1.below hq0)
      have T2 := Lib.hid (t2.below hq0)
      clear o1 o2 t1 t2 hb2 hq1 hq0
      by_cases hp : pc = 0
      · subst hp
        have TK := Lib.hid (take_any w.heap.size rs A2 A3 a2 a3 pv.length pk _ G2.out T1.out (by have := HRL.out; omega))
        go_wp2_with fail
        refine TK.out.mono ?_
        rintro e w3 ht
        rcases ht with ⟨hh, rfl, g3, k3⟩ | ⟨hh, rfl, g3, k3⟩
        · have W3 := Lib.hid (below_only HW2.out k3 (fun i hi => by omega))
          have HF : Hid (res = false) := by
            have h1 := hasG_true.1 hh
            rw [HO.out.fst] at h1
            rw [Hid, ← HR.out, HDU.out h1]
            simp
          clear g3 k3 hh
          go_wp2_with fail
          exact bodyPost_ret (v := .tuple #[.map none, .bool false]) (by simp [results, Try.results69, go_sem]) rfl ⟨W3.out, .inl ⟨HF.out, rfl⟩⟩
        · have W3 := Lib.hid (below_only HW2.out k3 (fun i hi => by omega))
          have G3 := Lib.hid g3
          have O3 : Hid (GOf w3 ((rowsPL ps ls).take (k + 1)) (rs ++ [(pk, .slice A3 pv.length a3)])) := by
            rw [Hid, HT.out]
            exact (O2.out.only k3 G2.out.noU8).snoc (x := (pk, pv)) (bs_only T2.out k3 (fun i hi _ => by rw [hi]; exact G2.out.noU8))
          clear g3 k3 hh
          go_wp2_with fail
          go_roundg (n - (k + 1))
          case measure => omega
          case rel => exact ⟨k + 1, rs ++ [(pk, .slice A3 pv.length a3)], by omega, rfl, by go_num, G3, O3, HTA.out.trans (by simp), by have := HRL.out; simp [Hid]; omega, W3.out⟩
      · have hp2 : (pc != 0) = true := by simpa using hp
        have HF : Hid (res = false) := by
          rw [Hid, ← HR.out, HBD.out (by simpa using hp)]
          rfl
        go_wp2_with fail
        exact bodyPost_ret (v := .tuple #[.map none, .bool false]) (by simp [results, Try.results69, go_sem]) rfl ⟨HW2.out, .inl ⟨HF.out, rfl⟩⟩
    · obtain rfl : k = n := by omega
      have i1 : ¬ (k : Int) < (k : Int) := by omega
      have HAP : Hid (ps.all okP = true) := by have := HA.out; rw [List.take_of_length_le (by rw [HN.out]; omega)] at this; exact this
      clear HA
      go_wp2_with fail
      go_loopg [38] m (fun gk i wr => ∃ (j : Nat) (rs : List GRow), j ≤ m ∧ gk = m - j ∧ i = .int .i64 (j : Int) ∧ Hid (GMap wr w.heap.size rs) ∧ Hid (GOf wr ((rowsPL ps ls).take (k + j)) rs) ∧ Hid ((ls.take j).all okL = true) ∧ Hid (rs.length = k + j) ∧ Below w.heap.size w wr)
      case atStart => exact ⟨0, rs, by omega, rfl, rfl, HG, HO, rfl, HRL, HW.out⟩
      case round =>
        clear HG HO HRL HW
        obtain ⟨j, rs, hj, rfl, rfl, HG, HO, HA, HRL, hb⟩ := hrel
        have HW := Lib.hid hb
        clear hb
        by_cases hlt : j < m
        · have i1 : (j : Int) < (m : Int) := by omega
          have i0 : (0 : Int) ≤ (j : Int) := by omega
          have HT := Lib.hid (take_row (rowsPL ps ls) (k + j) (by rw [rowsPL_len, HN.out, HM.out]; omega))
          have HGR := Lib.hid (by have := rowsPL_l (ps := ps) (ls := ls) (j := j) (by rw [HM.out]; exact hlt); rwa [HN.out] at this)
          have HBD := Lib.hid (bad_l (ps := ps) (ls := ls) (k := j) (by rw [HM.out]; exact hlt))
          have HDU := Lib.hid (fun h => dup_at (l := rowsPL ps ls) (i := k + j) (by rw [rowsPL_len, HN.out, HM.out]; omega) h)
          obtain ⟨bk, off, A1, a1, rfl, hbk, c0, c1, c2, c3, c4, c5, c6, c7, s1, lb⟩ := HQ.out.lane j _ (getD_get zeroLane (by rw [HM.out]; exact hlt))
          have HTA := Lib.hid (take_all okL zeroLane ls j (by rw [HM.out]; exact hlt))
          rw [HA.out] at HTA
          obtain ⟨x, hx⟩ : ∃ y, ls.getD j zeroLane = y := ⟨_, rfl⟩
          rw [hx] at c0 c1 c2 c3 c4 c5 c6 c7 s1 lb HGR HBD HTA
          rw [show rowL x = ((putLane x).1, (putLane x).2.1) from rfl] at HGR
          rw [show okL x = ((putLane x).2.2 == 0) from rfl] at HBD HTA
          rw [HGR.out] at HT HDU
          have y0 : wr.cell? ⟨bk, off + j * 8, none⟩ = some (.slice A1 x.key.length a1) := (HW.out.cell (p := ⟨bk, _, none⟩) hbk).trans c0
          have y1 : wr.cell? ⟨bk, off + j * 8 + 1, none⟩ = some (.int .i64 x.side) := (HW.out.cell (p := ⟨bk, _, none⟩) hbk).trans c1
          have y2 : wr.cell? ⟨bk, off + j * 8 + 2, none⟩ = some (.int .i64 x.cur) := (HW.out.cell (p := ⟨bk, _, none⟩) hbk).trans c2
          have y3 : wr.cell? ⟨bk, off + j * 8 + 3, none⟩ = some (.int .i64 x.next) := (HW.out.cell (p := ⟨bk, _, none⟩) hbk).trans c3
          have y4 : wr.cell? ⟨bk, off + j * 8 + 4, none⟩ = some (.int .u64 (x.sc : Int)) := (HW.out.cell (p := ⟨bk, _, none⟩) hbk).trans c4
          have y5 : wr.cell? ⟨bk, off + j * 8 + 5, none⟩ = some (.int .u64 (x.ceil : Int)) := (HW.out.cell (p := ⟨bk, _, none⟩) hbk).trans c5
          have y6 : wr.cell? ⟨bk, off + j * 8 + 6, none⟩ = some (.int .i64 x.sec) := (HW.out.cell (p := ⟨bk, _, none⟩) hbk).trans c6
          have y7 : wr.cell? ⟨bk, off + j * 8 + 7, none⟩ = some (.int .i64 x.nano) := (HW.out.cell (p := ⟨bk, _, none⟩) hbk).trans c7
          have HBX := Lib.hid (below_alloc (Below.refl wr.heap.size wr) (.cells #[.slice A1 x.key.length a1, .int .i64 x.side, .int .i64 x.cur, .int .i64 x.next, .int .u64 (x.sc : Int), .int .u64 (x.ceil : Int), .int .i64 x.sec, .int .i64 x.nano] 27))
          have q0 := blk_new wr (.cells #[.slice A1 x.key.length a1, .int .i64 x.side, .int .i64 x.cur, .int .i64 x.next, .int .u64 (x.sc : Int), .int .u64 (x.ceil : Int), .int .i64 x.sec, .int .i64 x.nano] 27)
          have bb0 := (blk_cell q0 0).trans (b := some (Value.slice A1 x.key.length a1)) rfl
          have bb1 := (blk_cell q0 1).trans (b := some (Value.int .i64 x.side)) rfl
          have bb2 := (blk_cell q0 2).trans (b := some (Value.int .i64 x.cur)) rfl
          have bb3 := (blk_cell q0 3).trans (b := some (Value.int .i64 x.next)) rfl
          have bb4 := (blk_cell q0 4).trans (b := some (Value.int .u64 (x.sc : Int))) rfl
          have bb5 := (blk_cell q0 5).trans (b := some (Value.int .u64 (x.ceil : Int))) rfl
          have bb6 := (blk_cell q0 6).trans (b := some (Value.int .i64 x.sec)) rfl
          have bb7 := (blk_cell q0 7).trans (b := some (Value.int .i64 x.nano)) rfl
          have P := Lib.hid (putLane_any A1 a1 x (wr.alloc (.cells #[.slice A1 x.key.length a1, .int .i64 x.side, .int .i64 x.cur, .int .i64 x.next, .int .u64 (x.sc : Int), .int .u64 (x.ceil : Int), .int .i64 x.sec, .int .i64 x.nano] 27)) ((s1.1.below HW.out).below (below_alloc (Below.refl _ _) (.cells #[.slice A1 x.key.length a1, .int .i64 x.side, .int .i64 x.cur, .int .i64 x.next, .int .u64 (x.sc : Int), .int .u64 (x.ceil : Int), .int .i64 x.sec, .int .i64 x.nano] 27))) lb)
          unfold laneV at P
          generalize hpp : putLane x = pp at HT HGR HBD HDU HTA P
          obtain ⟨pk, pv, pc⟩ := pp
          dsimp only at HT HGR HBD HDU HTA P
          clear c0 c1 c2 c3 c4 c5 c6 c7 s1 lb hx hpp q0 HGR
          go_wp2_with fail
          refine P.out.mono ?_
          rintro e w2 ⟨v1, v2, rfl, o1, o2, hb2⟩
          obtain ⟨A2, a2, rfl, t1⟩ := o1.bs
          obtain ⟨A3, a3, rfl, t2⟩ := o2.bs
          have hq1 := below_alloc (below_step HBX.out hb2) (.cells #[.slice A2 pk.length a2, .slice A3 pv.length a3] 29)
          have hq0 := below_alloc (Below.refl w2.heap.size w2) (.cells #[.slice A2 pk.length a2, .slice A3 pv.length a3] 29)
          have p0 := (blk_cell (blk_new w2 (.cells #[.slice A2 pk.length a2, .slice A3 pv.length a3] 29)) 0).trans (b := some (Value.slice A2 pk.length a2)) rfl
          have p1 := (blk_cell (blk_new w2 (.cells #[.slice A2 pk.length a2, .slice A3 pv.length a3] 29)) 1).trans (b := some (Value.slice A3 pv.length a3)) rfl
          have HW2 := Lib.hid (below_step HW.out hq1)
          have G2 := Lib.hid (HG.out.keep hq1)
          have O2 := Lib.hid (HO.out.below hq1)
          have T1 := Lib.hid (t1.below hq0)
          have T2 := Lib.hid (t2.below hq0)
          clear o1 o2 t1 t2 hb2 hq1 hq0
          by_cases hp : pc = 0
          · subst hp
            have TK := Lib.hid (take_any w.heap.size rs A2 A3 a2 a3 pv.length pk _ G2.out T1.out (by have := HRL.out; omega))
            go_wp2_with fail
            refine TK.out.mono ?_
            rintro e w3 ht
            rcases ht with ⟨hh, rfl, g3, k3⟩ | ⟨hh, rfl, g3, k3⟩
            · have W3 := Lib.hid (below_only HW2.out k3 (fun i hi => by omega))
              have HF : Hid (res = false) := by
                have h1 := hasG_true.1 hh
                rw [HO.out.fst] at h1
                rw [Hid, ← HR.out, HDU.out h1]
                simp
              clear g3 k3 hh
              go_wp2_with fail
              exact bodyPost_ret (v := .tuple #[.map none, .bool false]) (by simp [results, Try.results69, go_sem]) rfl ⟨W3.out, .inl ⟨HF.out, rfl⟩⟩
            · have W3 := Lib.hid (below_only HW2.out k3 (fun i hi => by omega))
              have G3 := Lib.hid g3
              have O3 : Hid (GOf w3 ((rowsPL ps ls).take (k + j + 1)) (rs ++ [(pk, .slice A3 pv.length a3)])) := by
                rw [Hid, HT.out]
                exact (O2.out.only k3 G2.out.noU8).snoc (x := (pk, pv)) (bs_only T2.out k3 (fun i hi _ => by rw [hi]; exact G2.out.noU8))
              clear g3 k3 hh
              go_wp2_with fail
              go_roundg (m - (j + 1))
              case measure => omega
              case rel => exact ⟨j + 1, rs ++ [(pk, .slice A3 pv.length a3)], by omega, rfl, by go_num, G3, O3, HTA.out.trans (by simp), by have := HRL.out; simp [Hid]; omega, W3.out⟩
          · have hp2 : (pc != 0) = true := by simpa using hp
            have HF : Hid (res = false) := by
              rw [Hid, ← HR.out, HBD.out (by simpa using hp)]
              rfl
            go_wp2_with fail
            exact bodyPost_ret (v := .tuple #[.map none, .bool false]) (by simp [results, Try.results69, go_sem]) rfl ⟨HW2.out, .inl ⟨HF.out, rfl⟩⟩
        · obtain rfl : j = m := by omega
          have j1 : ¬ (j : Int) < (j : Int) := by omega
          have hall : (rowsPL ps ls).take (k + j) = rowsPL ps ls := List.take_of_length_le (by rw [rowsPL_len, HN.out, HM.out]; omega)
          have HO2 : Hid (GOf wr (rowsPL ps ls) rs) := by rw [Hid, ← hall]; exact HO.out
          have HT : Hid (res = true) := by
            have h5 := (twice_nodup (rowsPL ps ls)).2 (by rw [← HO2.out.fst]; exact HG.out.2)
            have h6 : ls.all okL = true := by have := HA.out; rw [List.take_of_length_le (by rw [HM.out]; omega)] at this; exact this
            rw [Hid, ← HR.out, h5]
            unfold goodPL
            rw [HAP.out, h6]
            rfl
          clear hall HO
          go_wp2_with fail
          exact bodyPost_ret (v := .tuple #[.map (some w.heap.size), .bool true]) (by simp [results, Try.results69, go_sem]) rfl ⟨HW.out, .inr ⟨HT.out, w.heap.size, rs, rfl, Nat.le_refl _, HG.out, HO2.out⟩⟩
end Go.Proofs.Ytgbjhlkjceonpaa.Lst
/- The two lists of State; its first loop. -/
namespace Go.Proofs.Ytgbjhlkjceonpaa.Lst
open Go.RowKit Go.Proofs.Ytgbjhlkjceonpaa.K Go.Proofs.Ytgbjhlkjceonpaa.Help Go.Proofs.Ytgbjhlkjceonpaa.Pfx Go.Proofs.Ytgbjhlkjceonpaa.Peer
set_option linter.unusedVariables false

/-- State's two lists under way -/
structure S2 (w2 wr : World) (vp vl : Value) (ps : List PeerD) (ls : List LaneD) : Prop where
  p : OwnL PeerE 55 wr (fun k => vl.ownBlock = some k) w2.heap.size vp ps
  l : OwnL LaneE 27 wr (fun k => vp.ownBlock = some k) w2.heap.size vl ls
  b : Below w2.heap.size w2 wr
section
variable {w2 wr w1 : World} {vp vl v1 : Value} {ps : List PeerD} {ls : List LaneD}
theorem S2.start (w2 : World) : S2 w2 w2 (.slice none 0 0) (.slice none 0 0) [] [] := ⟨OwnL.nil _ _ _ _ _, OwnL.nil _ _ _ _ _, Below.refl _ _⟩
theorem S2.step (h : S2 w2 wr vp vl ps ls) (hb : Below wr.heap.size wr w1) : S2 w2 w1 vp vl ps ls := ⟨h.p.below hb, h.l.below hb, below_step h.b hb⟩
theorem S2.apart (h : S2 w2 wr vp vl ps ls) (i : Nat) (h1 : vl.ownBlock = some i) : ¬ vp.ownBlock = some i := fun h2 => by
  obtain ⟨c1, e1⟩ := h.l.blk h1
  obtain ⟨c2, e2⟩ := h.p.blk h2
  exact blk_ne e1 e2 (by decide) rfl
theorem S2.pushP (h : S2 w2 wr vp vl ps ls) {x : PeerD} (o : OwnL PeerE 55 w1 (fun k => vl.ownBlock = some k) w2.heap.size v1 (ps ++ [x])) (k : Only wr w1 (fun k => vp.ownBlock = some k)) (hn : ∀ i, v1.ownBlock = some i → vp.ownBlock = some i ∨ wr.heap.size ≤ i) :
    S2 w2 w1 v1 vl (ps ++ [x]) ls := by
  refine ⟨o, ?_, below_only h.b k (fun i hi => h.p.base_le hi)⟩
  have h1 := h.l.reno (N' := fun k => vp.ownBlock = some k ∨ v1.ownBlock = some k) (fun i hi => hi.elim .inl (hn i))
  exact (h1.only k (fun i hi => h.apart i hi) (fun i _ hi => .inl hi)).reno (fun i hi => .inl (.inr hi))
theorem S2.pushL (h : S2 w2 wr vp vl ps ls) {x : LaneD} (o : OwnL LaneE 27 w1 (fun k => vp.ownBlock = some k) w2.heap.size v1 (ls ++ [x])) (k : Only wr w1 (fun k => vl.ownBlock = some k)) (hn : ∀ i, v1.ownBlock = some i → vl.ownBlock = some i ∨ wr.heap.size ≤ i) :
    S2 w2 w1 vp v1 ps (ls ++ [x]) := by
  refine ⟨?_, o, below_only h.b k (fun i hi => h.l.base_le hi)⟩
  have h1 := h.p.reno (N' := fun k => vl.ownBlock = some k ∨ v1.ownBlock = some k) (fun i hi => hi.elim .inl (hn i))
  exact (h1.only k (fun i hi h2 => h.apart i h2 hi) (fun i _ hi => .inl hi)).reno (fun i hi => .inl (.inr hi))
theorem S2.freshP (h : S2 w2 wr vp vl ps ls) {A B : Option Addr} {a b : Nat} {x : PeerD} (h1 : Bs w1 A a x.key) (h2 : Ps w1 B b x.ps) (n1 : Nw wr A) (n2 : Nw wr B) :
    PeerE.R w1 (fun k => vl.ownBlock = some k ∨ vp.ownBlock = some k) [Value.int .i64 x.link, .slice A x.key.length a, .slice B x.ps.length b] x := by
  have hN : ∀ i, (vl.ownBlock = some i ∨ vp.ownBlock = some i) → i < wr.heap.size := fun i hi => hi.elim (fun e => h.l.lt e) (fun e => h.p.lt e)
  exact ⟨A, a, B, b, rfl, Bs.fresh h1 n1 hN, Ps.fresh h2 n2 hN⟩
theorem S2.freshL (h : S2 w2 wr vp vl ps ls) {A : Option Addr} {a : Nat} {x : LaneD} (h1 : Bs w1 A a x.key) (h2 : LaneB x) (n1 : Nw wr A) :
    LaneE.R w1 (fun k => vp.ownBlock = some k ∨ vl.ownBlock = some k) [Value.slice A x.key.length a, .int .i64 x.side, .int .i64 x.cur, .int .i64 x.next, .int .u64 (x.sc : Int), .int .u64 (x.ceil : Int), .int .i64 x.sec, .int .i64 x.nano] x := by
  have hN : ∀ i, (vp.ownBlock = some i ∨ vl.ownBlock = some i) → i < wr.heap.size := fun i hi => hi.elim (fun e => h.p.lt e) (fun e => h.l.lt e)
  exact ⟨A, a, rfl, Bs.fresh h1 n1 hN, h2⟩
theorem S2.fill (h : S2 w2 wr vp vl ps ls) {w5 wf : World} {g : Nat} (hb : Below wr.heap.size wr w5) (k : Only w5 wf (fun i => i = g)) (hg : wr.heap.size ≤ g) : S2 w2 wf vp vl ps ls := by
  have h1 := h.p.reno (N' := fun k => vl.ownBlock = some k ∨ k = g) (fun i hi => hi.elim .inl (fun e => .inr (by omega)))
  have h2 := h.l.reno (N' := fun k => vp.ownBlock = some k ∨ k = g) (fun i hi => hi.elim .inl (fun e => .inr (by omega)))
  refine ⟨?_, ?_, below_only (below_step h.b hb) k (fun i hi => by have := h.b.size; omega)⟩
  · exact ((h1.below hb).only k (fun i hi e => by have := h.p.lt hi; omega) (fun i _ hi => .inr hi)).reno (fun i hi => .inl (.inl hi))
  · exact ((h2.below hb).only k (fun i hi e => by have := h.l.lt hi; omega) (fun i _ hi => .inr hi)).reno (fun i hi => .inl (.inl hi))
theorem S2.boxP (h : S2 w2 wr vp vl ps ls) {w5 : World} {g : Nat} (hb : Below wr.heap.size wr w5) (hg : wr.heap.size ≤ g) (hx : PBox w5 g 0 none 0 0 none 0 0) {A B : Option Addr} {a b : Nat} {x : PeerD} (h1 : Bs w5 A a x.key) (h2 : Ps w5 B b x.ps) (n1 : Nw wr A) (n2 : Nw wr B) :
    S2 w2 (fill3 w5 g x.link A x.key.length a B x.ps.length b) vp vl ps ls ∧ PBox (fill3 w5 g x.link A x.key.length a B x.ps.length b) g x.link A x.key.length a B x.ps.length b
    ∧ PeerE.R (fill3 w5 g x.link A x.key.length a B x.ps.length b) (fun k => vl.ownBlock = some k ∨ vp.ownBlock = some k) [Value.int .i64 x.link, .slice A x.key.length a, .slice B x.ps.length b] x ∧ (fill3 w5 g x.link A x.key.length a B x.ps.length b).heap.size = w5.heap.size := by
  have hf := hx.fill x.link A x.key.length a B x.ps.length b
  exact ⟨h.fill hb hf.2 hg, hf.1, h.freshP (hx.bs h1 hf.2) (hx.ps h2 hf.2) n1 n2, by simp [fill3]⟩
theorem S2.boxL (h : S2 w2 wr vp vl ps ls) {w5 : World} {g : Nat} (hb : Below wr.heap.size wr w5) (hg : wr.heap.size ≤ g) (hx : w5.heap[g]? = some (.cells (lnC none 0 0 0 0 0 0 0 0 0) 27 (0, 0))) {A : Option Addr} {a : Nat} {x : LaneD} (h1 : Bs w5 A a x.key) (h2 : LaneB x) (n1 : Nw wr A) :
    S2 w2 (fill8 w5 g A x.key.length a x.side x.cur x.next x.sc x.ceil x.sec x.nano) vp vl ps ls ∧ (fill8 w5 g A x.key.length a x.side x.cur x.next x.sc x.ceil x.sec x.nano).heap[g]? = some (.cells (lnC A x.key.length a x.side x.cur x.next x.sc x.ceil x.sec x.nano) 27 (0, 0))
    ∧ LaneE.R (fill8 w5 g A x.key.length a x.side x.cur x.next x.sc x.ceil x.sec x.nano) (fun k => vp.ownBlock = some k ∨ vl.ownBlock = some k) [Value.slice A x.key.length a, .int .i64 x.side, .int .i64 x.cur, .int .i64 x.next, .int .u64 (x.sc : Int), .int .u64 (x.ceil : Int), .int .i64 x.sec, .int .i64 x.nano] x
    ∧ (fill8 w5 g A x.key.length a x.side x.cur x.next x.sc x.ceil x.sec x.nano).heap.size = w5.heap.size := by
  have h0 : RB wr w5 (fun k => k = g) A a x.key g 27 (lnC none 0 0 0 0 0 0 0 0 0) := ⟨hx, lnC_noU8 _ _ _ _ _ _ _ _ _ _, h1, Only.of_below hb _, hg⟩
  have hf := h0.fill8 A x.key.length a x.side x.cur x.next x.sc x.ceil x.sec x.nano
  have ho : Only w5 (fill8 w5 g A x.key.length a x.side x.cur x.next x.sc x.ceil x.sec x.nano) (fun k => k = g) := by
    unfold fill8
    exact ((((((((Only.refl w5 (fun k => k = g)).setCell (p := ⟨g, 0, none⟩) (.inl rfl) _).setCell (p := ⟨g, 1, none⟩) (.inl rfl) _).setCell (p := ⟨g, 2, none⟩) (.inl rfl) _).setCell (p := ⟨g, 3, none⟩) (.inl rfl) _).setCell (p := ⟨g, 4, none⟩) (.inl rfl) _).setCell (p := ⟨g, 5, none⟩) (.inl rfl) _).setCell (p := ⟨g, 6, none⟩) (.inl rfl) _).setCell (p := ⟨g, 7, none⟩) (.inl rfl) _
  exact ⟨h.fill hb ho hg, hf.r, h.freshL hf.bs h2 n1, by simp [fill8]⟩
end
theorem blk_new2 (w : World) (q1 q2 : Obj) : ((w.alloc q1).alloc q2).heap[w.heap.size + 1]? = some q2 := by
  have := blk_new (w.alloc q1) q2
  simpa using this
theorem stepK_some (l : List RowD) (s : T3) (k : List UInt8) : stepK l (some s) k = stepO s k (valOf l k) := rfl
theorem getBoots2 (A B : Option Addr) (c d : Nat) (k v : List UInt8) (w : World) (ha : Bs w A c k) (hb : Bs w B d v) :
    Calls Try.prog 20 #[.agg #[.slice A k.length c, .slice B v.length d]] w (Pure w (.tuple #[.int .i64 (bootsGet k v).1, .int .i64 (bootsGet k v).2])) := by
  have h := getBoots_any A B c d k v w ha hb
  rw [takes_rd, readAs_boots] at h
  exact h
end Go.Proofs.Ytgbjhlkjceonpaa.Lst
/- Peers, lanes and a case as they come in. -/
namespace Go.Proofs.Ytgbjhlkjceonpaa.Lst
open Go.ChangeShapes Go.WideShapes Go.ChangeAt Go.RowKit Go.Proofs.Ytgbjhlkjceonpaa.K Go.Proofs.Ytgbjhlkjceonpaa.Help Go.Proofs.Ytgbjhlkjceonpaa.Pfx Go.Proofs.Ytgbjhlkjceonpaa.Peer
set_option linter.unusedVariables false

set_option maxRecDepth 100000 in
theorem trod_peers {H : Type} {enc : TypeId × Value → H} {W : World} {fuel : Nat} {cs : List Value} {y : DataW H × List MemPlace} (h : DataW.trod enc Try.prog W 0 (fun _ => true) true fuel 67 cs = some y) (hz : Small y.1 67) :
    ∃ A c l, cs = [.slice A l.length c] ∧ Lst PeerE W (fun _ => False) A c l := by
  refine trod_list PeerE Try.underlying67 cellsOf_peer (by decide) (fun n cs z hn hsm => ?_) h hz
  obtain ⟨xs, n', _, hx, hl, hxs, hfl⟩ := DataW.trod_struct Try.underlying55 hn
  rw [cellsOf_peer] at hl
  match cs, hl with
  | [c0, c1, c2], _ =>
    have f0 : DataW.trod enc Try.prog W 0 (fun _ => true) true n' 3 (([c0, c1, c2].drop 0).take (Try.prog.cellsOf 3)) = xs[0]? := hfl 0 _ rfl
    have f1 : DataW.trod enc Try.prog W 0 (fun _ => true) true n' 22 (([c0, c1, c2].drop 1).take (Try.prog.cellsOf 22)) = xs[1]? := hfl 1 _ rfl
    have f2 : DataW.trod enc Try.prog W 0 (fun _ => true) true n' 53 (([c0, c1, c2].drop 2).take (Try.prog.cellsOf 53)) = xs[2]? := hfl 2 _ rfl
    rw [cellsOf_int] at f0
    rw [cellsOf_bytes] at f1
    rw [cellsOf_pfxs] at f2
    have hxl : xs.length = 3 := hxs
    match xs, hxl with
    | [y0, y1, y2], _ =>
      have hd : z.1 = .agg [y0.1, y1.1, y2.1] := by rw [hx]; rfl
      have w1 : Small y1.1 22 := fun n hn => hsm n (by rw [hd]; simp only [DataW.weights, Try.underlying55]; simp [DataW.weightsEach]; exact .inr (.inl hn))
      obtain ⟨z0, e0, _, q0⟩ := DataW.trod_int Try.underlying3 f0
      obtain ⟨A, a, k, e1, s1⟩ := trod_bytes f1 w1
      obtain ⟨B, b, l, e2, s2⟩ := trod_pfxs f2
      simp at e0 e1 e2
      subst e0 e1 e2
      exact ⟨⟨z0, k, l⟩, A, a, B, b, rfl, Bs.bsn s1, Ps.psn s2⟩
set_option maxRecDepth 100000 in
theorem trod_lanes {H : Type} {enc : TypeId × Value → H} {W : World} {fuel : Nat} {cs : List Value} {y : DataW H × List MemPlace} (h : DataW.trod enc Try.prog W 0 (fun _ => true) true fuel 68 cs = some y) (hz : Small y.1 68) :
    ∃ A c l, cs = [.slice A l.length c] ∧ Lst LaneE W (fun _ => False) A c l := by
  refine trod_list LaneE Try.underlying68 cellsOf_lane (by decide) (fun n cs z hn hsm => ?_) h hz
  obtain ⟨xs, n', _, hx, hl, hxs, hfl⟩ := DataW.trod_struct Try.underlying27 hn
  rw [cellsOf_lane] at hl
  match cs, hl with
  | [c0, c1, c2, c3, c4, c5, c6, c7], _ =>
    have f0 : DataW.trod enc Try.prog W 0 (fun _ => true) true n' 22 (([c0, c1, c2, c3, c4, c5, c6, c7].drop 0).take (Try.prog.cellsOf 22)) = xs[0]? := hfl 0 _ rfl
    have f1 : DataW.trod enc Try.prog W 0 (fun _ => true) true n' 3 (([c0, c1, c2, c3, c4, c5, c6, c7].drop 1).take (Try.prog.cellsOf 3)) = xs[1]? := hfl 1 _ rfl
    have f2 : DataW.trod enc Try.prog W 0 (fun _ => true) true n' 3 (([c0, c1, c2, c3, c4, c5, c6, c7].drop 2).take (Try.prog.cellsOf 3)) = xs[2]? := hfl 2 _ rfl
    have f3 : DataW.trod enc Try.prog W 0 (fun _ => true) true n' 3 (([c0, c1, c2, c3, c4, c5, c6, c7].drop 3).take (Try.prog.cellsOf 3)) = xs[3]? := hfl 3 _ rfl
    have f4 : DataW.trod enc Try.prog W 0 (fun _ => true) true n' 23 (([c0, c1, c2, c3, c4, c5, c6, c7].drop 4).take (Try.prog.cellsOf 23)) = xs[4]? := hfl 4 _ rfl
    have f5 : DataW.trod enc Try.prog W 0 (fun _ => true) true n' 23 (([c0, c1, c2, c3, c4, c5, c6, c7].drop 5).take (Try.prog.cellsOf 23)) = xs[5]? := hfl 5 _ rfl
    have f6 : DataW.trod enc Try.prog W 0 (fun _ => true) true n' 25 (([c0, c1, c2, c3, c4, c5, c6, c7].drop 6).take (Try.prog.cellsOf 25)) = xs[6]? := hfl 6 _ rfl
    rw [cellsOf_bytes] at f0
    rw [cellsOf_int] at f1 f2 f3
    rw [cellsOf_u64] at f4 f5
    rw [cellsOf_stamp] at f6
    have hxl : xs.length = 7 := hxs
    match xs, hxl with
    | [y0, y1, y2, y3, y4, y5, y6], _ =>
      have hd : z.1 = .agg [y0.1, y1.1, y2.1, y3.1, y4.1, y5.1, y6.1] := by rw [hx]; rfl
      have w0 : Small y0.1 22 := fun n hn => hsm n (by rw [hd]; simp only [DataW.weights, Try.underlying27]; simp [DataW.weightsEach]; exact .inl hn)
      obtain ⟨A, a, k, e0, s0⟩ := trod_bytes f0 w0
      obtain ⟨z1, e1, _, q1⟩ := DataW.trod_int Try.underlying3 f1
      obtain ⟨z2, e2, _, q2⟩ := DataW.trod_int Try.underlying3 f2
      obtain ⟨z3, e3, _, q3⟩ := DataW.trod_int Try.underlying3 f3
      obtain ⟨z4, e4, _, q4⟩ := DataW.trod_int Try.underlying23 f4
      obtain ⟨z5, e5, _, q5⟩ := DataW.trod_int Try.underlying23 f5
      obtain ⟨ys, n2, _, _, _, hys, hfs⟩ := DataW.trod_struct Try.underlying25 f6
      have g0 : DataW.trod enc Try.prog W 0 (fun _ => true) true n2 3 (([c6, c7].drop 0).take (Try.prog.cellsOf 3)) = ys[0]? := hfs 0 _ rfl
      have g1 : DataW.trod enc Try.prog W 0 (fun _ => true) true n2 3 (([c6, c7].drop 1).take (Try.prog.cellsOf 3)) = ys[1]? := hfs 1 _ rfl
      rw [cellsOf_int] at g0 g1
      have hyl : ys.length = 2 := hys
      match ys, hyl with
      | [u0, u1], _ =>
        obtain ⟨z6, e6, _, q6⟩ := DataW.trod_int Try.underlying3 g0
        obtain ⟨z7, e7, _, q7⟩ := DataW.trod_int Try.underlying3 g1
        simp at e0 e1 e2 e3 e4 e5 e6 e7
        subst e0 e1 e2 e3 e4 e5 e6 e7
        obtain ⟨m4, rfl, b4⟩ := nat_u64 q4
        obtain ⟨m5, rfl, b5⟩ := nat_u64 q5
        have b6 := wf_i64 q6
        exact ⟨⟨k, z1, z2, z3, m4, m5, z6, z7⟩, A, a, rfl, Bs.bsn s0, ⟨b4, b5, b6.2⟩⟩
theorem cellsOf_case : Try.prog.cellsOf 70 = 4 := by kernel_rfl
theorem cellsOf_peers : Try.prog.cellsOf 67 = 1 := by kernel_rfl
theorem cellsOf_lanes : Try.prog.cellsOf 68 = 1 := by kernel_rfl
theorem arr4 {cs : Array Value} (h : cs.size = 4) : ∃ c0 c1 c2 c3, cs = #[c0, c1, c2, c3] := by
  obtain ⟨l⟩ := cs
  match l, h with
  | [c0, c1, c2, c3], _ => exact ⟨c0, c1, c2, c3, rfl⟩
/-- a case: peers, new peers, lanes, new lanes -/
def caseV (A A' B B' : Option Addr) (a a' b b' n n' m m' : Nat) : Value := .agg #[.slice A n a, .slice A' n' a', .slice B m b, .slice B' m' b']
set_option maxRecDepth 100000 in
theorem arg_case {H : Type} {enc : TypeId × Value → H} {W : World} {b0 : Nat} {v : Value} {d : DataW H} {ps : List MemPlace}
    (hval : Value.okWide Try.prog W .any b0 70 v) (h : DataW.Trod enc Try.prog W 0 (fun _ => true) true 70 v d ps) (hz : Small d 70) :
    ∃ A A' B B' a a' b b' ps ps' ls ls', v = caseV A A' B B' a a' b b' ps.length ps'.length ls.length ls'.length ∧ Lst PeerE W (fun _ => False) A a ps ∧ Lst PeerE W (fun _ => False) A' a' ps' ∧ Lst LaneE W (fun _ => False) B b ls ∧ Lst LaneE W (fun _ => False) B' b' ls' := by
  obtain ⟨cs, rfl, hsz⟩ := okWide_struct Try.underlying70 hval
  obtain ⟨c0, c1, c2, c3, rfl⟩ := arr4 (hsz.trans cellsOf_case)
  obtain ⟨fuel, hf⟩ := h
  obtain ⟨xs, n', _, hx, hl, hxs, hfl⟩ := DataW.trod_struct Try.underlying70 hf
  have f0 : DataW.trod enc Try.prog W 0 (fun _ => true) true n' 67 (([c0, c1, c2, c3].drop 0).take (Try.prog.cellsOf 67)) = xs[0]? := hfl 0 _ rfl
  have f1 : DataW.trod enc Try.prog W 0 (fun _ => true) true n' 67 (([c0, c1, c2, c3].drop 1).take (Try.prog.cellsOf 67)) = xs[1]? := hfl 1 _ rfl
  have f2 : DataW.trod enc Try.prog W 0 (fun _ => true) true n' 68 (([c0, c1, c2, c3].drop 2).take (Try.prog.cellsOf 68)) = xs[2]? := hfl 2 _ rfl
  have f3 : DataW.trod enc Try.prog W 0 (fun _ => true) true n' 68 (([c0, c1, c2, c3].drop 3).take (Try.prog.cellsOf 68)) = xs[3]? := hfl 3 _ rfl
  rw [cellsOf_peers] at f0 f1
  rw [cellsOf_lanes] at f2 f3
  have hxl : xs.length = 4 := hxs
  match xs, hxl with
  | [y0, y1, y2, y3], _ =>
    injection hx with hd hp
    subst hd
    have w0 : Small y0.1 67 := fun n hn => hz n (by simp only [DataW.weights, Try.underlying70]; simp [DataW.weightsEach]; exact .inl hn)
    have w1 : Small y1.1 67 := fun n hn => hz n (by simp only [DataW.weights, Try.underlying70]; simp [DataW.weightsEach]; exact .inr (.inl hn))
    have w2 : Small y2.1 68 := fun n hn => hz n (by simp only [DataW.weights, Try.underlying70]; simp [DataW.weightsEach]; exact .inr (.inr (.inl hn)))
    have w3 : Small y3.1 68 := fun n hn => hz n (by simp only [DataW.weights, Try.underlying70]; simp [DataW.weightsEach]; exact .inr (.inr (.inr hn)))
    obtain ⟨A, a, ps, e0, s0⟩ := trod_peers f0 w0
    obtain ⟨A', a', ps', e1, s1⟩ := trod_peers f1 w1
    obtain ⟨B, b, ls, e2, s2⟩ := trod_lanes f2 w2
    obtain ⟨B', b', ls', e3, s3⟩ := trod_lanes f3 w3
    simp at e0 e1 e2 e3
    subst e0 e1 e2 e3
    exact ⟨A, A', B, B', a, a', b, b', ps, ps', ls, ls', rfl, s0, s1, s2, s3⟩
end Go.Proofs.Ytgbjhlkjceonpaa.Lst
/- The walk of rows.Sets. -/
namespace Go.Proofs.Ytgbjhlkjceonpaa.Lst
open Go.RowKit Go.Proofs.Ytgbjhlkjceonpaa.K Go.Proofs.Ytgbjhlkjceonpaa.Help Go.Proofs.Ytgbjhlkjceonpaa.Pfx Go.Proofs.Ytgbjhlkjceonpaa.Peer
set_option linter.unusedVariables false

theorem GOf.has {w : World} {l : List RowD} {rs : List GRow} (h : GOf w l rs) (k : List UInt8) : hasG rs k = hasK l k := by
  rw [Bool.eq_iff_iff, hasG_true, hasK_mem, h.fst]
theorem okPL_nodup {ps : List PeerD} {ls : List LaneD} (h : okPL ps ls = true) : ((rowsPL ps ls).map Prod.fst).Nodup := by
  unfold okPL at h
  rw [Bool.and_eq_true] at h
  exact (twice_nodup _).1 (by simpa using h.2)
theorem rowsPL_key (ps : List PeerD) (ls : List LaneD) : ∀ k, k ∈ (rowsPL ps ls).map Prod.fst → k.length ≤ 33 := by
  intro k hk
  obtain ⟨r, hr, rfl⟩ := List.mem_map.1 hk
  unfold rowsPL at hr
  rcases List.mem_append.1 hr with h | h
  · obtain ⟨p, _, rfl⟩ := List.mem_map.1 h
    unfold rowP
    by_cases hp : peerOk p
    · rw [putPeer_ok hp]; simp [be]
    · rw [putPeer_bad hp]; simp
  · obtain ⟨p, _, rfl⟩ := List.mem_map.1 h
    unfold rowL
    by_cases hp : laneOk p
    · rw [putLane_yes hp]; have := hp.1; simp; omega
    · rw [putLane_no hp]; simp
/-- the sets under way -/
structure S3 (w3 wr : World) (v : Value) (s : List SetD) : Prop where
  o : OwnL SetE 130 wr (fun _ => False) w3.heap.size v s
  b : Below w3.heap.size w3 wr
section
variable {w3 wr w1 : World} {v v1 : Value} {s : List SetD}
theorem S3.start (w3 : World) : S3 w3 w3 (.slice none 0 0) [] := ⟨OwnL.nil _ _ _ _ _, Below.refl _ _⟩
theorem S3.step (h : S3 w3 wr v s) (hb : Below wr.heap.size wr w1) : S3 w3 w1 v s := ⟨h.o.below hb, below_step h.b hb⟩
theorem S3.push (h : S3 w3 wr v s) {x : SetD} (o : OwnL SetE 130 w1 (fun _ => False) w3.heap.size v1 (s ++ [x])) (k : Only wr w1 (fun k => v.ownBlock = some k)) : S3 w3 w1 v1 (s ++ [x]) :=
  ⟨o, below_only h.b k (fun i hi => h.o.base_le hi)⟩
theorem S3.el (h : S3 w3 wr v s) {W1 : World} (hb : Below wr.heap.size wr W1) {A B : Option Addr} {a b : Nat} {key val : List UInt8} {g : Bool} (h1 : Bs W1 A a key) (n1 : Nw wr A) (h2 : Bs w3 B b val) :
    SetE.R W1 (fun k => False ∨ v.ownBlock = some k) [Value.slice A key.length a, .slice B val.length b, .bool g] (key, val, g) := by
  refine ⟨A, a, B, b, rfl, Bs.fresh h1 n1 (fun i hi => hi.elim (fun h => h.elim) (fun e => h.o.lt e)), ?_⟩
  refine ⟨h2.below (below_step h.b hb), fun hl ad e hn => ?_⟩
  have h3 := Bs.blk h2 hl ad e
  have h4 := hn.elim (fun h => h.elim) (fun e => h.o.base_le e)
  omega
end
/-- the same beside a list of keys -/
structure S4 (w3 wr : World) (v : Value) (s : List SetD) (A : Option Addr) (c : Nat) (ks : List (List UInt8)) : Prop where
  s : S3 w3 wr v s
  t : Lst StrE wr (fun k => v.ownBlock = some k) A c ks
section
variable {w3 wr w1 : World} {v v1 : Value} {s : List SetD} {A : Option Addr} {c : Nat} {ks : List (List UInt8)}
theorem S4.start (h : S3 w3 wr v s) (hb : Below wr.heap.size wr w1) (hl : Lst StrE w1 (fun _ => False) A c ks) (hn : Nw wr A) : S4 w3 w1 v s A c ks :=
  ⟨h.step hb, ⟨hl.le, hl.max, fun i x hx => by
    obtain ⟨bk, off, raw, e, hlt, _, hc, hr⟩ := hl.at_ i x hx
    exact ⟨bk, off, raw, e, hlt, fun ho => by have h1 := hn _ e; have h2 := h.o.lt ho; dsimp only at h1; omega, hc, hr⟩⟩⟩
theorem S4.step (h : S4 w3 wr v s A c ks) (hb : Below wr.heap.size wr w1) : S4 w3 w1 v s A c ks := ⟨h.s.step hb, h.t.below hb⟩
theorem S4.push (h : S4 w3 wr v s A c ks) {x : SetD} (o : OwnL SetE 130 w1 (fun _ => False) w3.heap.size v1 (s ++ [x])) (k : Only wr w1 (fun k => v.ownBlock = some k)) (hn : ∀ i, v1.ownBlock = some i → v.ownBlock = some i ∨ wr.heap.size ≤ i) : S4 w3 w1 v1 (s ++ [x]) A c ks :=
  ⟨h.s.push o k, (((h.t.reno (N' := fun k => v.ownBlock = some k ∨ v1.ownBlock = some k) (fun i hi => hi.elim .inl (hn i))).only k (fun i _ hi => .inl hi)).reno (fun i hi => .inl (.inr hi)))⟩
end
section
open Go.Maps
variable {ops : Array Oper} {rest : List Oper} {o : Oper} {a : Act} {Q : Exit → Act → World → Prop} {w : World} {b : Nat} {rs : List GRow}
theorem look_vg (hw : Region.wanted o (yielded ops a.tmps) = true) (m x : Operand) (hop : o.op = Op.lookup 123 m x false) (hm : a.eval m = .map (some b)) (h : GMap w b rs) (k : List UInt8) (hx : a.eval x = .string ⟨k.toArray⟩) (hk : k.length ≤ maxLen)
    (hK : wpList Try.prog ops Q rest (a.put o.dst (lookG rs k)) w) : wpList Try.prog ops Q (o :: rest) a w := by
  refine BigFrame.wpList_want hw fun K' hK' => ?_
  obtain ⟨v, ps, hrun, hv⟩ := h.1.lookup K_str u_map (z_bytes w) (zd := .held (.slice none 0 0)) (zp := []) rfl (key := .string ⟨k.toArray⟩) (kl := .string k) (by simpa using WideMaps.keyOf_string_mk u_str (s := ⟨k.toArray⟩) (by simpa [ByteArray.size] using hk))
  rw [mapD_at rs k h.2] at hv
  unfold RV at hv
  injection hv with hv
  injection hv with hv
  injection hv with hv
  subst hv
  unfold Oper.wp
  simp [execOp, hop, hm, hx, hrun, Result.andThen]
  exact hK' _ _ hK
end
theorem nw_at (w : World) (o : Nat) : Nw w (some ⟨w.heap.size, o, none⟩) := fun ad e => by injection e with e; rw [← e]; exact Nat.le_refl _
noncomputable def progQ (ps ps' : List PeerD) (ls ls' : List LaneD) : QD := if (okPL ps ls && okPL ps' ls') = true then (sortS (rawSets (rowsPL ps ls) (rowsPL ps' ls')), 0) else ([], 114)
theorem progQ_eq (ps ps' : List PeerD) (ls ls' : List LaneD) : progQ ps ps' ls ls' = refSets ps ps' ls ls' := by
  unfold progQ refSets
  by_cases h : (okPL ps ls && okPL ps' ls') = true
  · rw [if_pos h, if_pos h]
    rw [Bool.and_eq_true] at h
    rw [progSets_eq (okPL_nodup h.1) (okPL_nodup h.2)]
  · rw [if_neg h, if_neg h]
set_option maxRecDepth 100000 in
set_option maxHeartbeats 8000000 in
theorem sets_any (A A' B B' : Option Addr) (a a' b b' : Nat) (ps ps' : List PeerD) (ls ls' : List LaneD) (w : World) (hp : Lst PeerE w (fun _ => False) A a ps) (hp' : Lst PeerE w (fun _ => False) A' a' ps') (hq : Lst LaneE w (fun _ => False) B b ls) (hq' : Lst LaneE w (fun _ => False) B' b' ls')
    (hn : ps.length ≤ 100) (hn' : ps'.length ≤ 100) (hm : ls.length ≤ 100) (hm' : ls'.length ≤ 100) :
    Calls Try.prog 30 #[.slice A ps.length a, .slice A' ps'.length a', .slice B ls.length b, .slice B' ls'.length b'] w (RetQ w (progQ ps ps' ls ls')) := by
  have R1 := Lib.hid (mapState_any A B a b ps ls w hp hq (by omega) (by omega))
  have R2 := Lib.hid (fun W h h' => mapState_any A' B' a' b' ps' ls' W h h' (by omega) (by omega))
  have HP2 := Lib.hid hp'
  have HQ2 := Lib.hid hq'
  have L1 := Lib.hid (rowsPL_len ps ls)
  have L2 := Lib.hid (rowsPL_len ps' ls')
  have N1 := Lib.hid (okPL_nodup (ps := ps) (ls := ls))
  have N2 := Lib.hid (okPL_nodup (ps := ps') (ls := ls'))
  have K1 := Lib.hid (rowsPL_key ps ls)
  have K2 := Lib.hid (rowsPL_key ps' ls')
  rw [show (goodPL ps ls && !twiceB (rowsPL ps ls)) = okPL ps ls from rfl] at R1
  rw [show (goodPL ps' ls' && !twiceB (rowsPL ps' ls')) = okPL ps' ls' from rfl] at R2
  generalize hr : progQ ps ps' ls ls' = res
  have HR := Lib.hid hr
  clear hr hp hp' hq hq'
  unfold progQ at HR
  generalize rowsPL ps ls = was at *
  generalize rowsPL ps' ls' = is_ at *
  generalize okPL ps ls = g1 at *
  generalize okPL ps' ls' = g2 at *
  have LW : Hid (was.length ≤ 200) := by rw [Hid, L1.out]; omega
  have LI : Hid (is_.length ≤ 200) := by rw [Hid, L2.out]; omega
  clear L1 L2
  go_enter Try.func30, Try.ntmps30
  go_wp2_with fail
  refine R1.out.mono ?_
  rintro e w1 ⟨hb1, h1⟩
  have W1 := Lib.hid hb1
  clear hb1 R1
  rcases h1 with ⟨rfl, rfl⟩ | ⟨rfl, b1, rs1, rfl, hbs1, hg1, ho1⟩
  · have HE : Hid (res = ([], 114)) := by rw [Hid, ← HR.out]; rfl
    clear HR N1 N2
    go_wp2_with fail
    refine (R2.out w1 (HP2.out.below W1.out) (HQ2.out.below W1.out)).mono ?_
    rintro e w2 ⟨hb2, h2⟩
    have W2 := Lib.hid (below_step W1.out hb2)
    clear hb2
    rcases h2 with ⟨rfl, rfl⟩ | ⟨rfl, b2, rs2, rfl, -⟩
    all_goals
      go_wp2_with fail
      exact bodyPost_ret (v := .tuple #[.slice none 0 0, .int .i64 114]) (by simp [results, Try.results30, go_sem]) rfl ⟨none, 0, by rw [HE.out]; rfl, by rw [HE.out]; exact Lst.nil _ _, W2.out⟩
  have G1 := Lib.hid hg1
  have O1 := Lib.hid ho1
  clear hbs1 hg1 ho1
  go_wp2_with fail
  refine (R2.out w1 (HP2.out.below W1.out) (HQ2.out.below W1.out)).mono ?_
  rintro e w2 ⟨hb2, h2⟩
  have W2 := Lib.hid (below_step W1.out hb2)
  have G12 := Lib.hid (G1.out.keep hb2)
  have O12 := Lib.hid (O1.out.below hb2)
  clear hb2 R2 G1 O1
  rcases h2 with ⟨rfl, rfl⟩ | ⟨rfl, b2, rs2, rfl, hbs2, hg2, ho2⟩
  · have HE : Hid (res = ([], 114)) := by rw [Hid, ← HR.out]; rfl
    clear HR N1 N2
    go_wp2_with fail
    exact bodyPost_ret (v := .tuple #[.slice none 0 0, .int .i64 114]) (by simp [results, Try.results30, go_sem]) rfl ⟨none, 0, by rw [HE.out]; rfl, by rw [HE.out]; exact Lst.nil _ _, W2.out⟩
  have HE : Hid (res = (sortS (rawSets was is_), 0)) := by rw [Hid, ← HR.out]; rfl
  have D1 := Lib.hid (N1.out (by simp))
  have D2 := Lib.hid (N2.out (by simp))
  have G22 := Lib.hid hg2
  have O22 := Lib.hid ho2
  have Q1 := Lib.hid (O12.out.has)
  have RL1 : Hid (rs1.length ≤ 200) := by rw [Hid, O12.out.1]; exact LW.out
  have RL2 : Hid (rs2.length ≤ 200) := by rw [Hid, O22.out.1]; exact LI.out
  have Q2 := Lib.hid (O22.out.has)
  clear HR N1 N2 hbs2 hg2 ho2
  have RN := Lib.hid (raw_nodup D1.out D2.out)
  unfold rawSets at HE RN
  have KY := Lib.hid (keys_any b2 rs2 w2 G22.out (by have := RL2.out; omega))
  have HKS : Hid (keysOf rs2 = keysL is_) := by rw [Hid]; unfold keysOf keysL; rw [O22.out.fst]
  rw [HKS.out] at KY
  have HKM : Hid (∀ x, x ∈ keysL is_ → x ∈ is_.map Prod.fst) := Lib.hid (fun x hx => (List.mergeSort_perm _ _).mem_iff.1 hx)
  have HKL : Hid ((keysL is_).length ≤ 200) := by have := LI.out; unfold keysL; simpa [Hid] using this
  have HFS := Lib.hid (fun j hj => take_fold (stepPA was is_) [] [] (keysL is_) j hj)
  clear HKS
  generalize keysL is_ = ks at *
  go_wp2_with fail
  refine KY.out.mono ?_
  rintro e w3 ⟨KA, kc, rfl, hkl, hb3⟩
  have HKK := Lib.hid hkl
  have W3 := Lib.hid (below_step W2.out hb3)
  have G1 := Lib.hid (G12.out.keep hb3)
  have O1 := Lib.hid (O12.out.below hb3)
  have G2 := Lib.hid (G22.out.keep hb3)
  have O2 := Lib.hid (O22.out.below hb3)
  have hkc := hkl.le
  have hkc2 := hkl.max
  have HS3 := Lib.hid (S3.start w3)
  clear hkl hb3 KY G12 O12 G22 O22
  generalize hm : ks.length = m at *
  have HM := Lib.hid hm
  clear hm
  go_wp2_with fail
  go_loopg [44, 14] m (fun gk i s14 wr => ∃ (j : Nat) (s : List SetD), j ≤ m ∧ gk = m - j ∧ i = .int .i64 (j : Int) ∧ Hid ((ks.take j).foldl (stepPA was is_) [] = s) ∧ Hid (s.length ≤ j) ∧ Hid (S3 w3 wr s14 s))
  case atStart => exact ⟨0, [], by omega, rfl, rfl, rfl, by simp [Hid], HS3.out⟩
  case round =>
    clear HS3
    obtain ⟨j, s, hj, rfl, rfl, HF, HLn, HS⟩ := hrel
    obtain ⟨S, sc, rfl⟩ := HS.out.o.slice
    by_cases hjt : j < m
    · have j1 : (j : Int) < (m : Int) := by omega
      have j0 : (0 : Int) ≤ (j : Int) := by omega
      have HST := Lib.hid (HFS.out j hjt)
      rw [HF.out] at HST
      have hkk : ks[j]? = some (ks.getD j []) := getD_get [] (by rw [HM.out]; exact hjt)
      obtain ⟨bk, off, raw, rfl, hbk, -, hc, hraw⟩ := HKK.out.at_ j _ hkk
      have hmem := HKM.out _ (List.mem_of_getElem? hkk)
      obtain ⟨kk, hx⟩ : ∃ y, ks.getD j [] = y := ⟨_, rfl⟩
      rw [hx] at hmem hraw HST
      cases hraw
      have y0 : wr.cell? ⟨bk, off + j, none⟩ = some (.string ⟨kk.toArray⟩) := by
        have := (HS.out.b.cell (p := ⟨bk, off + j * 1 + 0, none⟩) hbk).trans (hc 0 (by decide))
        simpa [encStr] using this
      obtain ⟨VB, vb, hlook, hvb⟩ := find_pair kk is_ rs2 O2.out hmem
      have hkl : kk.length ≤ 140737488355328 := by have := K2.out kk hmem; omega
      have hkm : kk.length ≤ maxLen := by simp only [maxLen]; omega
      have HKM2 := Lib.hid hkm
      have HLK := Lib.hid hlook
      have HV := Lib.hid hvb
      have Ga := Lib.hid (G1.out.keep HS.out.b)
      have Gb := Lib.hid (G2.out.keep HS.out.b)
      have HQ := Q1.out kk
      have HHM : Hid (hasK was kk = true → kk ∈ was.map Prod.fst) := Lib.hid hasK_mem.1
      rw [show stepPA was is_ s kk = if (hasK was kk && decide (valOf was kk = valOf is_ kk)) = true then s else s ++ [(kk, valOf is_ kk, false)] from rfl] at HST
      have BC := Lib.hid (bytes_of · kk hkl)
      clear hlook hvb hkm hmem hx hkk hc
      generalize hhk : hasK was kk = hk at *
      clear hhk
      cases hk
      · have HH := Lib.hid HQ
        have HST2 : Hid ((ks.take (j + 1)).foldl (stepPA was is_) [] = s ++ [(kk, valOf is_ kk, false)]) := HST
        clear HQ HST
        obtain ⟨cap, w4, hcv, hs4, hb4⟩ := BC.out wr
        generalize valOf is_ kk = vv at *
        have B4 := Lib.hid hb4
        have Gc := Lib.hid (Gb.out.keep hb4)
        have E5 := Lib.hid (HS.out.el (below_alloc hb4 (.cells #[Value.slice (some ⟨wr.heap.size, 0, none⟩) kk.length cap, .slice VB vv.length vb, .bool false] 130)) (g := false) (hs4.below (below_alloc (Below.refl _ _) _)) (nw_at wr 0) HV.out)
        have S5 := Lib.hid (HS.out.step (below_alloc hb4 (.cells #[Value.slice (some ⟨wr.heap.size, 0, none⟩) kk.length cap, .slice VB vv.length vb, .bool false] 130)))
        have X5 := Lib.hid (blk_new w4 (.cells #[Value.slice (some ⟨wr.heap.size, 0, none⟩) kk.length cap, .slice VB vv.length vb, .bool false] 130))
        clear hs4 hb4
        go_wp2_with (first
          | (at_lookup; refine look_ok rfl _ _ rfl rfl Ga.out kk rfl HKM2.out ?_; rw [HH.out])
          | (at_lookup; refine look_v rfl _ _ rfl rfl Gc.out kk rfl HKM2.out ?_; rw [HLK.out])
          | (at_builtin; refine push (E := SetE) 130 71 _ 56 rfl (.tmp 64) (.tmp 71) rfl Try.underlying71 info_set rfl (by decide) (by decide) (by decide) (.slice S s.length sc) s (kk, vv, false) _ w4.heap.size 1 rfl rfl S5.out.o X5.out E5.out S5.out.b.size (by have := HLn.out; have := HKL.out; omega) ?_ (fun _ h => h.elim); intro A6 c6 w6 o6 k6 n6; have S7 := Lib.hid (S5.out.push o6 k6); clear o6 k6 n6))
        go_roundg (m - (j + 1))
        case measure => omega
        case rel => exact ⟨j + 1, _, by omega, rfl, by go_num, HST2, by have := HLn.out; simp [Hid]; omega, by simpa using S7⟩
      · have HH := Lib.hid HQ
        obtain ⟨UB, ub, hlk1, hub⟩ := find_pair kk was rs1 O1.out (HHM.out rfl)
        have HLU := Lib.hid hlk1
        have BE := Lib.hid (bytesEqual UB VB ub vb (valOf was kk) (valOf is_ kk) wr (hub.below HS.out.b) (HV.out.below HS.out.b))
        clear HQ hlk1 hub
        generalize valOf is_ kk = vv at *
        generalize valOf was kk = uu at *
        by_cases hv : uu = vv
        · rw [show decide (uu = vv) = true from decide_eq_true hv] at BE HST
          have HST2 : Hid ((ks.take (j + 1)).foldl (stepPA was is_) [] = s) := HST
          clear HST hv
          go_wp2_with (first
            | (at_lookup; refine look_ok rfl _ _ rfl rfl Ga.out kk rfl HKM2.out ?_; rw [HH.out, HLU.out])
            | (at_lookup; refine look_vg rfl _ _ rfl rfl Gb.out kk rfl HKM2.out ?_; rw [HLK.out]))
          refine BE.out.mono ?_
          rintro e w5 ⟨q, rfl, rfl⟩
          have S7 := Lib.hid (HS.out.step (below_drewN (Below.refl _ _) q))
          generalize wr.drewN q = w5 at *
          go_wp2_with fail
          go_roundg (m - (j + 1))
          case measure => omega
          case rel => exact ⟨j + 1, s, by omega, rfl, by go_num, HST2, by have := HLn.out; rw [Hid]; omega, S7⟩
        · rw [show decide (uu = vv) = false from decide_eq_false hv] at BE HST
          have HST2 : Hid ((ks.take (j + 1)).foldl (stepPA was is_) [] = s ++ [(kk, vv, false)]) := HST
          clear HST hv
          go_wp2_with (first
            | (at_lookup; refine look_ok rfl _ _ rfl rfl Ga.out kk rfl HKM2.out ?_; rw [HH.out, HLU.out])
            | (at_lookup; refine look_vg rfl _ _ rfl rfl Gb.out kk rfl HKM2.out ?_; rw [HLK.out]))
          refine BE.out.mono ?_
          rintro e w5 ⟨q, rfl, rfl⟩
          have S7 := Lib.hid (HS.out.step (below_drewN (Below.refl _ _) q))
          have Gd := Lib.hid (Gb.out.keep (below_drewN (Below.refl _ _) q))
          clear HS
          generalize wr.drewN q = w5 at *
          obtain ⟨cap, w4, hcv, hs4, hb4⟩ := BC.out w5
          have B4 := Lib.hid hb4
          have Gc := Lib.hid (Gd.out.keep hb4)
          have E5 := Lib.hid (S7.out.el (below_alloc hb4 (.cells #[Value.slice (some ⟨w5.heap.size, 0, none⟩) kk.length cap, .slice VB vv.length vb, .bool false] 130)) (g := false) (hs4.below (below_alloc (Below.refl _ _) _)) (nw_at w5 0) HV.out)
          have S5 := Lib.hid (S7.out.step (below_alloc hb4 (.cells #[Value.slice (some ⟨w5.heap.size, 0, none⟩) kk.length cap, .slice VB vv.length vb, .bool false] 130)))
          have X5 := Lib.hid (blk_new w4 (.cells #[Value.slice (some ⟨w5.heap.size, 0, none⟩) kk.length cap, .slice VB vv.length vb, .bool false] 130))
          clear hs4 hb4 S7 Ga Gb
          go_wp2_with (first
            | (at_lookup; refine look_v rfl _ _ rfl rfl Gc.out kk rfl HKM2.out ?_; rw [HLK.out])
            | (at_builtin; refine push (E := SetE) 130 71 _ 56 rfl (.tmp 64) (.tmp 71) rfl Try.underlying71 info_set rfl (by decide) (by decide) (by decide) (.slice S s.length sc) s (kk, vv, false) _ w4.heap.size 1 rfl rfl S5.out.o X5.out E5.out S5.out.b.size (by have := HLn.out; have := HKL.out; omega) ?_ (fun _ h => h.elim); intro A6 c6 w6 o6 k6 n6; have S7 := Lib.hid (S5.out.push o6 k6); clear o6 k6 n6))
          go_roundg (m - (j + 1))
          case measure => omega
          case rel => exact ⟨j + 1, _, by omega, rfl, by go_num, HST2, by have := HLn.out; simp [Hid]; omega, by simpa using S7⟩
    · obtain rfl : j = m := by omega
      have j1 : ¬ (j : Int) < (j : Int) := by omega
      have htk : ks.take j = ks := List.take_of_length_le (by rw [HM.out]; omega)
      have HF2 := HF.out
      rw [htk] at HF2
      rw [HF2] at HE RN
      clear HF2 htk HF HFS HKM HKK
      have Ga := Lib.hid (G1.out.keep HS.out.b)
      have Oa := Lib.hid (O1.out.below HS.out.b)
      have KY := Lib.hid (keys_nw b1 rs1 wr Ga.out (by have := RL1.out; omega))
      have HKS : Hid (keysOf rs1 = keysL was) := by rw [Hid]; unfold keysOf keysL; rw [Oa.out.fst]
      rw [HKS.out] at KY
      have HKM : Hid (∀ x, x ∈ keysL was → x ∈ was.map Prod.fst) := Lib.hid (fun x hx => (List.mergeSort_perm _ _).mem_iff.1 hx)
      have HKL2 : Hid ((keysL was).length ≤ 200) := by have := LW.out; unfold keysL; simpa [Hid] using this
      have HFS := Lib.hid (fun i hi => take_fold (stepPB is_) [] s (keysL was) i hi)
      clear HKS Oa
      generalize keysL was = kt at *
      go_wp2_with fail
      refine KY.out.mono ?_
      rintro e w5 ⟨TA, tc, rfl, htl, hb5, hn5⟩
      have S5 := Lib.hid (S4.start HS.out hb5 htl hn5)
      have htc := htl.le
      have htc2 := htl.max
      clear htl hb5 hn5 KY Ga HS
      generalize hm2 : kt.length = m2 at *
      have HM2 := Lib.hid hm2
      clear hm2
      generalize hv14 : Value.slice S s.length sc = v14 at *
      clear hv14
      go_wp2_with fail
      go_loopg [77, 14] m2 (fun gk i s14 wr => ∃ (i2 : Nat) (u : List SetD), i2 ≤ m2 ∧ gk = m2 - i2 ∧ i = .int .i64 (i2 : Int) ∧ Hid ((kt.take i2).foldl (stepPB is_) s = u) ∧ Hid (u.length ≤ j + i2) ∧ Hid (S4 w3 wr s14 u TA tc kt))
      case atStart => exact ⟨0, s, by omega, rfl, rfl, rfl, HLn, S5.out⟩
      case round =>
        clear S5
        obtain ⟨i2, u, hj2, rfl, rfl, HF, HLn2, HS⟩ := hrel
        obtain ⟨S2, sc2, rfl⟩ := HS.out.s.o.slice
        by_cases hjt : i2 < m2
        · have j1 : (i2 : Int) < (m2 : Int) := by omega
          have j0 : (0 : Int) ≤ (i2 : Int) := by omega
          have HST := Lib.hid (HFS.out i2 hjt)
          rw [HF.out] at HST
          have hkk : kt[i2]? = some (kt.getD i2 []) := getD_get [] (by rw [HM2.out]; exact hjt)
          obtain ⟨bk, off, raw, rfl, hbk, -, hc, hraw⟩ := HS.out.t.at_ i2 _ hkk
          have hmem := HKM.out _ (List.mem_of_getElem? hkk)
          obtain ⟨kk, hx⟩ : ∃ y, kt.getD i2 [] = y := ⟨_, rfl⟩
          rw [hx] at hmem hraw HST
          cases hraw
          have y0 : wr.cell? ⟨bk, off + i2, none⟩ = some (.string ⟨kk.toArray⟩) := by
            have := hc 0 (by decide)
            rw [show StrE.sz = 1 from rfl, Nat.mul_one, Nat.add_zero] at this
            exact this
          have hkl : kk.length ≤ 140737488355328 := by have := K1.out kk hmem; omega
          have hkm : kk.length ≤ maxLen := by simp only [maxLen]; omega
          have HKM2 := Lib.hid hkm
          have Gb := Lib.hid (G2.out.keep HS.out.s.b)
          have HQ := Q2.out kk
          rw [show stepPB is_ u kk = if hasK is_ kk = true then u else u ++ [(kk, [], true)] from rfl] at HST
          obtain ⟨cap, w4, hcv, hs4, hb4⟩ := bytes_of wr kk hkl
          clear hkm hmem hx hkk hc
          generalize hasK is_ kk = hk at *
          cases hk
          · have HH := Lib.hid HQ
            have HST2 : Hid ((kt.take (i2 + 1)).foldl (stepPB is_) s = u ++ [(kk, [], true)]) := HST
            clear HQ HST
            have E5 := Lib.hid (HS.out.s.el (below_alloc hb4 (.cells #[Value.slice (some ⟨wr.heap.size, 0, none⟩) kk.length cap, .slice none 0 0, .bool true] 130)) (g := true) (hs4.below (below_alloc (Below.refl _ _) _)) (nw_at wr 0) (Bs.nil _ _ _ : Bs w3 none 0 []))
            have S5 := Lib.hid (HS.out.step (below_alloc hb4 (.cells #[Value.slice (some ⟨wr.heap.size, 0, none⟩) kk.length cap, .slice none 0 0, .bool true] 130)))
            have X5 := Lib.hid (blk_new w4 (.cells #[Value.slice (some ⟨wr.heap.size, 0, none⟩) kk.length cap, .slice none 0 0, .bool true] 130))
            clear hs4 hb4
            go_wp2_with (first
              | (at_lookup; refine look_ok rfl _ _ rfl rfl Gb.out kk rfl HKM2.out ?_; rw [HH.out])
              | (at_builtin; refine push (E := SetE) 130 71 _ 56 rfl (.tmp 89) (.tmp 93) rfl Try.underlying71 info_set rfl (by decide) (by decide) (by decide) (.slice S2 u.length sc2) u (kk, [], true) _ w4.heap.size 1 rfl rfl S5.out.s.o X5.out E5.out S5.out.s.b.size (by have := HLn2.out; have := HKL2.out; have := HKL.out; omega) ?_ (fun _ h => h.elim); intro A6 c6 w6 o6 k6 n6; have S7 := Lib.hid (S5.out.push o6 k6 n6); clear o6 k6 n6))
            go_roundg (m2 - (i2 + 1))
            case measure => omega
            case rel => exact ⟨i2 + 1, _, by omega, rfl, by go_num, HST2, by have := HLn2.out; simp [Hid]; omega, by simpa using S7⟩
          · have HH := Lib.hid HQ
            have HST2 : Hid ((kt.take (i2 + 1)).foldl (stepPB is_) s = u) := HST
            clear HQ HST hs4 hb4 hcv
            go_wp2_with (first
              | (at_lookup; refine look_ok rfl _ _ rfl rfl Gb.out kk rfl HKM2.out ?_; rw [HH.out]))
            go_roundg (m2 - (i2 + 1))
            case measure => omega
            case rel => exact ⟨i2 + 1, u, by omega, rfl, by go_num, HST2, by have := HLn2.out; rw [Hid]; omega, HS⟩
        · obtain rfl : i2 = m2 := by omega
          have j1 : ¬ (i2 : Int) < (i2 : Int) := by omega
          have htk : kt.take i2 = kt := List.take_of_length_le (by rw [HM2.out]; omega)
          have HF2 := HF.out
          rw [htk] at HF2
          rw [HF2] at HE RN
          have W5 := Lib.hid (below_step W3.out HS.out.s.b)
          have ST := Lib.hid (sortSets_any wr w3.heap.size (.slice S2 u.length sc2) u HS.out.s.o RN.out)
          clear HF2 htk HF HFS
          go_wp2_with fail
          refine ST.out.mono ?_
          rintro e w6 ⟨rfl, o6, k6⟩
          obtain ⟨A9, a9, e9, l9⟩ := o6.lst (fun _ _ h => h)
          have E9 := Lib.hid e9
          have L9 := Lib.hid l9
          have W6 := Lib.hid (below_only W5.out k6 (fun i hi => Nat.le_trans W3.out.size (HS.out.s.o.base_le hi)))
          clear e9 l9 o6 k6
          go_wp2_with fail
          exact bodyPost_ret (v := .tuple #[.slice S2 u.length sc2, .int .i64 0]) (by simp [results, Try.results30, go_sem]) rfl ⟨A9, a9, by rw [HE.out, E9.out], by rw [HE.out]; exact L9.out, W6.out⟩
end Go.Proofs.Ytgbjhlkjceonpaa.Lst
/- A case's box; fits. -/
namespace Go.Proofs.Ytgbjhlkjceonpaa.Lst
open Go.RowKit Go.Proofs.Ytgbjhlkjceonpaa.K Go.Proofs.Ytgbjhlkjceonpaa.Help Go.Proofs.Ytgbjhlkjceonpaa.Pfx Go.Proofs.Ytgbjhlkjceonpaa.Peer
set_option linter.unusedVariables false

/-- the box of a case -/
structure CsS (w w' : World) (s0 s1 s2 s3 : Value) : Prop where
  b : w'.heap[w.heap.size]? = some (.cells #[s0, s1, s2, s3] 70 (0, 0))
  below : Below w.heap.size w w'
section
variable {w w' w2 : World} {s0 s1 s2 s3 : Value}
theorem CsS.start (w : World) (s0 s1 s2 s3 : Value) : CsS w (w.alloc (.cells #[s0, s1, s2, s3] 70)) s0 s1 s2 s3 := ⟨blk_new _ _, below_alloc (Below.refl _ _) _⟩
theorem CsS.step (h : CsS w w' s0 s1 s2 s3) (hb : Below w'.heap.size w' w2) : CsS w w2 s0 s1 s2 s3 := ⟨(hb.block _ (blk_lt h.b)).trans h.b, below_step h.below hb⟩
theorem CsS.drewN (h : CsS w w' s0 s1 s2 s3) (n : Nat) : CsS w (w'.drewN n) s0 s1 s2 s3 := ⟨h.b, below_drewN h.below n⟩
theorem CsS.c0 (h : CsS w w' s0 s1 s2 s3) : w'.cell? ⟨w.heap.size, 0, none⟩ = some s0 := (blk_cell h.b 0).trans rfl
theorem CsS.c1 (h : CsS w w' s0 s1 s2 s3) : w'.cell? ⟨w.heap.size, 1, none⟩ = some s1 := (blk_cell h.b 1).trans rfl
theorem CsS.c2 (h : CsS w w' s0 s1 s2 s3) : w'.cell? ⟨w.heap.size, 2, none⟩ = some s2 := (blk_cell h.b 2).trans rfl
theorem CsS.c3 (h : CsS w w' s0 s1 s2 s3) : w'.cell? ⟨w.heap.size, 3, none⟩ = some s3 := (blk_cell h.b 3).trans rfl
end
def FitL (n : Nat) (ps : List PeerD) : Prop := n ≤ 60 → ∀ x, x ∈ ps → x.ps.length ≤ 60
def FitsP (ps ps' : List PeerD) (n n' m m' : Nat) : Prop := n ≤ 60 ∧ n' ≤ 60 ∧ m ≤ 60 ∧ m' ≤ 60 ∧ (∀ x, x ∈ ps → x.ps.length ≤ 60) ∧ (∀ x, x ∈ ps' → x.ps.length ≤ 60)
def RetFit (w : World) (P : Prop) (e : Ending) (w' : World) : Prop := ∃ b : Bool, e = .returned (.bool b) ∧ (b = true → P) ∧ Below w.heap.size w w'
theorem fitL_of {ps : List PeerD} {n k : Nat} (hn : ps.length = n) (h : ∀ i, i < k → (ps.getD i zeroPeer).ps.length ≤ 60) (hk : ¬ (k < n ∧ k < 60)) : FitL n ps := by
  intro h60 x hx
  obtain ⟨i, hi, rfl⟩ := List.mem_iff_getElem.1 hx
  have := h i (by omega)
  simpa [hi] using this
theorem ret_fit {w w' : World} {P : Prop} {b : Bool} (h : b = true → P) (hb : Below w.heap.size w w') : RetFit w P (.returned (.bool b)) w' := ⟨b, rfl, h, hb⟩
set_option maxRecDepth 100000 in
set_option maxHeartbeats 4000000 in
theorem fits_any (A A' B B' : Option Addr) (a a' b b' m m' : Nat) (ps ps' : List PeerD) (w : World) (hp : Lst PeerE w (fun _ => False) A a ps) (hp' : Lst PeerE w (fun _ => False) A' a' ps') :
    Calls Try.prog 29 #[caseV A A' B B' a a' b b' ps.length ps'.length m m'] w (RetFit w (FitsP ps ps' ps.length ps'.length m m')) := by
  have HP := Lib.hid hp
  have HP' := Lib.hid hp'
  have h1 := hp.le
  have h2 := hp.max
  have h3 := hp'.le
  have h4 := hp'.max
  clear hp hp'
  have H0 := Lib.hid (CsS.start w (.slice A ps.length a) (.slice A' ps'.length a') (.slice B m b) (.slice B' m' b'))
  have q0 := H0.out.c0
  clear q0
  unfold caseV
  generalize hn : ps.length = n at *
  have HN := Lib.hid hn
  generalize hn' : ps'.length = n' at *
  have HN' := Lib.hid hn'
  clear hn hn'
  go_enter Try.func29, Try.ntmps29
  go_wp2_with fail
  go_loopg [3] n (fun gk i wr => ∃ k : Nat, k ≤ n ∧ k ≤ 60 ∧ gk = n - k ∧ i = .int .i64 (k : Int) ∧ Hid (∀ i, i < k → (ps.getD i zeroPeer).ps.length ≤ 60) ∧ Hid (CsS w wr (.slice A n a) (.slice A' n' a') (.slice B m b) (.slice B' m' b')))
  case atStart => exact ⟨0, by omega, by omega, rfl, rfl, fun i h => by omega, H0⟩
  case round =>
    clear H0
    obtain ⟨k, hk, hk6, rfl, rfl, HA, HC⟩ := hrel
    have d0 := HC.out.c0
    by_cases hc : k < n ∧ k < 60
    · obtain ⟨hlt, hl6⟩ := hc
      have i1 : (k : Int) < (n : Int) := by omega
      have i2 : (k : Int) < 60 := by omega
      have i0 : (0 : Int) ≤ (k : Int) := by omega
      obtain ⟨bk, off, A1, a1, B1, b1, rfl, hbk, c0, c1, c2, s1, s2⟩ := HP.out.peer k _ (getD_get zeroPeer (by rw [HN.out]; exact hlt))
      obtain ⟨x, hx⟩ : ∃ y, ps.getD k zeroPeer = y := ⟨_, rfl⟩
      rw [hx] at c2
      have HX := Lib.hid hx
      have y2 : wr.cell? ⟨bk, off + k * 3 + 2, none⟩ = some (.slice B1 x.ps.length b1) := (HC.out.below.cell (p := ⟨bk, _, none⟩) hbk).trans c2
      have W1 := Lib.hid HC.out.below
      clear c0 c1 c2 s1 s2 hx hbk
      generalize hxl : x.ps.length = xl at *
      have HXL := Lib.hid hxl
      clear hxl
      by_cases h6 : xl ≤ 60
      · have t6 : ¬ (60 : Int) < (xl : Int) := by omega
        go_wp2_with fail
        go_roundg (n - (k + 1))
        case measure => omega
        case rel => exact ⟨k + 1, by omega, by omega, rfl, by go_num, fun i hi => by
          rcases Nat.lt_or_ge i k with h | h
          · exact HA.out i h
          · have : i = k := by omega
            subst this
            rw [HX.out, HXL.out]; exact h6, HC⟩
      · have t6 : (60 : Int) < (xl : Int) := by omega
        go_wp2_with fail
        go_ret
        exact ret_fit (by simp) W1.out
    · have HF := Lib.hid (fitL_of HN.out HA.out hc)
      clear HA
      have i0 : (0 : Int) ≤ (k : Int) := by omega
      rcases (show (¬ (k : Int) < (n : Int)) ∨ ((k : Int) < (n : Int) ∧ ¬ (k : Int) < 60) by omega) with i1 | ⟨i1, i2⟩
      all_goals
        clear hc
        go_wp2_with fail
        clear d0
        go_loopg [4] n' (fun gk i wr => ∃ k : Nat, k ≤ n' ∧ k ≤ 60 ∧ gk = n' - k ∧ i = .int .i64 (k : Int) ∧ Hid (∀ i, i < k → (ps'.getD i zeroPeer).ps.length ≤ 60) ∧ Hid (CsS w wr (.slice A n a) (.slice A' n' a') (.slice B m b) (.slice B' m' b')))
        case atStart => exact ⟨0, by omega, by omega, rfl, rfl, fun i h => by omega, HC⟩
        case round =>
          clear HC i0 i1
          obtain ⟨j, hj, hj6, rfl, rfl, HA, HC⟩ := hrel
          have d1 := HC.out.c1
          by_cases hc : j < n' ∧ j < 60
          · obtain ⟨hlt, hl6⟩ := hc
            have i1 : (j : Int) < (n' : Int) := by omega
            have i2 : (j : Int) < 60 := by omega
            have i0 : (0 : Int) ≤ (j : Int) := by omega
            obtain ⟨bk, off, A1, a1, B1, b1, rfl, hbk, c0, c1, c2, s1, s2⟩ := HP'.out.peer j _ (getD_get zeroPeer (by rw [HN'.out]; exact hlt))
            obtain ⟨x, hx⟩ : ∃ y, ps'.getD j zeroPeer = y := ⟨_, rfl⟩
            rw [hx] at c2
            have HX := Lib.hid hx
            have y2 : wr.cell? ⟨bk, off + j * 3 + 2, none⟩ = some (.slice B1 x.ps.length b1) := (HC.out.below.cell (p := ⟨bk, _, none⟩) hbk).trans c2
            have W1 := Lib.hid HC.out.below
            clear c0 c1 c2 s1 s2 hx hbk
            generalize hxl : x.ps.length = xl at *
            have HXL := Lib.hid hxl
            clear hxl
            by_cases h6 : xl ≤ 60
            · have t6 : ¬ (60 : Int) < (xl : Int) := by omega
              go_wp2_with fail
              go_roundg (n' - (j + 1))
              case measure => omega
              case rel => exact ⟨j + 1, by omega, by omega, rfl, by go_num, fun i hi => by
                rcases Nat.lt_or_ge i j with h | h
                · exact HA.out i h
                · have : i = j := by omega
                  subst this
                  rw [HX.out, HXL.out]; exact h6, HC⟩
            · have t6 : (60 : Int) < (xl : Int) := by omega
              go_wp2_with fail
              go_ret
              exact ret_fit (by simp) W1.out
          · have HF2 := Lib.hid (fitL_of HN'.out HA.out hc)
            have W1 := Lib.hid HC.out.below
            have d0 := HC.out.c0
            have d2 := HC.out.c2
            have d3 := HC.out.c3
            clear HA
            have i0 : (0 : Int) ≤ (j : Int) := by omega
            rcases (show (¬ (j : Int) < (n' : Int)) ∨ ((j : Int) < (n' : Int) ∧ ¬ (j : Int) < 60) by omega) with i1 | ⟨i1, i2⟩
            all_goals
              clear hc
              rcases Nat.lt_or_ge 60 n with g0 | g0
              · first
                | (exfalso; omega)
                | (have e0 : decide ((n : Int) ≤ 60) = false := by rw [decide_eq_false_iff_not]; omega
                   clear g0
                   go_wp2_with fail
                   go_ret
                   exact ret_fit (by simp) W1.out)
              · first
                | (exfalso; omega)
                | (have e0 : (n : Int) ≤ 60 := by omega
                   rcases Nat.lt_or_ge 60 n' with g1 | g1
                   · first
                     | (exfalso; omega)
                     | (have e1 : decide ((n' : Int) ≤ 60) = false := by rw [decide_eq_false_iff_not]; omega
                        clear g1
                        go_wp2_with fail
                        go_ret
                        exact ret_fit (by simp) W1.out)
                   · first
                     | (exfalso; omega)
                     | (have e1 : (n' : Int) ≤ 60 := by omega
                        rcases Nat.lt_or_ge 60 m with g2 | g2
                        · first
                          | (exfalso; omega)
                          | (have e2 : decide ((m : Int) ≤ 60) = false := by rw [decide_eq_false_iff_not]; omega
                             clear g2
                             go_wp2_with fail
                             go_ret
                             exact ret_fit (by simp) W1.out)
                        · first
                          | (exfalso; omega)
                          | (have e2 : (m : Int) ≤ 60 := by omega
                             rcases Nat.lt_or_ge 60 m' with g3 | g3
                             · first
                               | (exfalso; omega)
                               | (have e3 : decide ((m' : Int) ≤ 60) = false := by rw [decide_eq_false_iff_not]; omega
                                  clear g3
                                  go_wp2_with fail
                                  go_ret
                                  exact ret_fit (by simp) W1.out)
                             · first
                               | (exfalso; omega)
                               | (have e3 : (m' : Int) ≤ 60 := by omega
                                  have HR : Hid (FitsP ps ps' n n' m m') := Lib.hid ⟨g0, g1, g2, g3, HF.out g0, HF2.out g1⟩
                                  clear g0 g1 g2 g3
                                  go_wp2_with fail
                                  go_ret
                                  exact ret_fit (fun _ => HR.out) W1.out))))
end Go.Proofs.Ytgbjhlkjceonpaa.Lst
/- The walk of put. -/
namespace Go.Proofs.Ytgbjhlkjceonpaa.Lst
open Go.RowKit Go.Proofs.Ytgbjhlkjceonpaa.K Go.Proofs.Ytgbjhlkjceonpaa.Help Go.Proofs.Ytgbjhlkjceonpaa.Pfx Go.Proofs.Ytgbjhlkjceonpaa.Peer
set_option linter.unusedVariables false

set_option maxRecDepth 100000 in
set_option maxHeartbeats 4000000 in
theorem put_any (A B : Option Addr) (a b : Nat) (ps : List PeerD) (ls : List LaneD) (w : World) (hp : Lst PeerE w (fun _ => False) A a ps) (hq : Lst LaneE w (fun _ => False) B b ls) (hn : ps.length ≤ 1000) (hm : ls.length ≤ 1000) :
    Calls Try.prog 31 #[.slice A ps.length a, .slice B ls.length b] w (RetL RowE w (rowsPL ps ls)) := by
  have HP := Lib.hid hp
  have HQ := Lib.hid hq
  have h1 := hp.le
  have h2 := hp.max
  have h3 := hq.le
  have h4 := hq.max
  clear hp hq
  generalize hrr : rowsPL ps ls = rws at *
  have HRR := Lib.hid hrr
  clear hrr
  generalize hnn : ps.length = n at *
  have HN := Lib.hid hnn
  generalize hmm : ls.length = m at *
  have HM := Lib.hid hmm
  clear hnn hmm
  go_enter Try.func31, Try.ntmps31
  go_wp2_with fail
  go_loopg [6, 5] n (fun gk i s6 wr => ∃ (k : Nat), k ≤ n ∧ gk = n - k ∧ i = .int .i64 (k : Int) ∧ OwnL RowE 29 wr (fun _ => False) w.heap.size s6 ((ps.take k).map rowP) ∧ Below w.heap.size w wr)
  case atStart => exact ⟨0, by omega, rfl, rfl, OwnL.nil _ _ _ _ _, Below.refl _ _⟩
  case round =>
    obtain ⟨k, hk, rfl, rfl, ho, hb⟩ := hrel
    have hlk : ((ps.take k).map rowP).length = k := by rw [List.length_map, List.length_take, HN.out]; omega
    obtain ⟨AM, cM, rfl⟩ := ho.slice
    have HO := Lib.hid ho
    have HW := Lib.hid hb
    clear ho hb
    by_cases hlt : k < n
    · have i1 : (k : Int) < (n : Int) := by omega
      have i0 : (0 : Int) ≤ (k : Int) := by omega
      have HT := Lib.hid (take_map rowP zeroPeer ps k (by rw [HN.out]; exact hlt))
      obtain ⟨bk, off, A1, a1, B1, b1, rfl, hbk, c0, c1, c2, s1, s2⟩ := HP.out.peer k _ (getD_get zeroPeer (by rw [HN.out]; exact hlt))
      obtain ⟨x, hx⟩ : ∃ y, ps.getD k zeroPeer = y := ⟨_, rfl⟩
      rw [hx] at c0 c1 c2 s1 s2 HT
      rw [show rowP x = ((putPeer x).1, (putPeer x).2.1) from rfl] at HT
      have y0 : wr.cell? ⟨bk, off + k * 3, none⟩ = some (.int .i64 x.link) := (HW.out.cell (p := ⟨bk, _, none⟩) hbk).trans c0
      have y1 : wr.cell? ⟨bk, off + k * 3 + 1, none⟩ = some (.slice A1 x.key.length a1) := (HW.out.cell (p := ⟨bk, _, none⟩) hbk).trans c1
      have y2 : wr.cell? ⟨bk, off + k * 3 + 2, none⟩ = some (.slice B1 x.ps.length b1) := (HW.out.cell (p := ⟨bk, _, none⟩) hbk).trans c2
      have P := Lib.hid (putPeer_any A1 B1 a1 b1 x wr (s1.1.below HW.out) (s2.1.below HW.out))
      unfold peerV at P
      generalize hpp : putPeer x = pp at HT P
      obtain ⟨pk, pv, pc⟩ := pp
      dsimp only at HT P
      have HLK := Lib.hid hlk
      clear c0 c1 c2 s1 s2 hx hpp
      rw [hlk] at HO ⊢
      clear hlk
      go_wp2_with fail
      refine P.out.mono ?_
      rintro e w2 ⟨v1, v2, rfl, o1, o2, hb2⟩
      obtain ⟨A2, a2, rfl, t1⟩ := o1.bs
      obtain ⟨A3, a3, rfl, t2⟩ := o2.bs
      have n1 := Own.nw (w := wr) o1 (Nat.le_refl _)
      have n2 := Own.nw (w := wr) o2 (Nat.le_refl _)
      have hq1 := below_alloc hb2 (.cells #[.slice A2 pk.length a2, .slice A3 pv.length a3] 29)
      have hq2 := below_alloc hq1 (.cells #[.slice A2 pk.length a2, .slice A3 pv.length a3] 29)
      have hq0 := below_alloc (below_alloc (Below.refl w2.heap.size w2) (.cells #[.slice A2 pk.length a2, .slice A3 pv.length a3] 29)) (.cells #[.slice A2 pk.length a2, .slice A3 pv.length a3] 29)
      have p0 := (blk_cell (blk_new w2 (.cells #[.slice A2 pk.length a2, .slice A3 pv.length a3] 29)) 0).trans (b := some (Value.slice A2 pk.length a2)) rfl
      have p1 := (blk_cell (blk_new w2 (.cells #[.slice A2 pk.length a2, .slice A3 pv.length a3] 29)) 1).trans (b := some (Value.slice A3 pv.length a3)) rfl
      have HWA := Lib.hid (below_step HW.out hq2)
      have HX1 := Lib.hid (blk_two w2 (.cells #[.slice A2 pk.length a2, .slice A3 pv.length a3] 29) (.cells #[.slice A2 pk.length a2, .slice A3 pv.length a3] 29))
      have HOA := Lib.hid (HO.out.below hq2)
      have HXA := Lib.hid (fresh_row (W := wr) (k := pk) (v := pv) (N := fun i => (fun _ => False) i ∨ (Value.slice AM k cM).ownBlock = some i) (t1.below hq0) (t2.below hq0) n1 n2 (fun i hi => hi.elim False.elim (fun h => HO.out.lt h)))
      clear o1 o2 t1 t2 hb2 hq1 hq2 hq0 n1 n2
      go_wp2_with (at_builtin; refine push (E := RowE) 29 74 _ 48 rfl (.tmp 26) (.tmp 28) rfl Try.underlying74 info_row rfl (by decide) (by decide) (by decide) (.slice AM k cM) ((ps.take k).map rowP) (pk, pv) [Value.slice A2 pk.length a2, .slice A3 pv.length a3] (w2.heap.size + 1) 1 rfl rfl HOA.out HX1.out HXA.out HWA.out.size (by rw [HLK.out]; omega) ?_ (fun _ h => h.elim); intro A4 c4 w4 o4 k4 n4; rw [HLK.out] at o4 ⊢; rw [← HT.out] at o4; have O4 := Lib.hid o4; have W4 := Lib.hid (below_only HWA.out k4 (fun i hi => HOA.out.base_le hi)); clear o4 k4 n4)
      go_roundg (n - (k + 1))
      case measure => omega
      case rel => exact ⟨k + 1, by omega, rfl, by go_num, O4.out, W4.out⟩
    · obtain rfl : k = n := by omega
      have i1 : ¬ (k : Int) < (k : Int) := by omega
      have htk : ps.take k = ps := List.take_of_length_le (by rw [HN.out]; omega)
      rw [hlk] at HO ⊢
      rw [htk] at HO
      clear htk hlk
      go_wp2_with fail
      go_loopg [9, 5] m (fun gk i s6 wr => ∃ (j : Nat), j ≤ m ∧ gk = m - j ∧ i = .int .i64 (j : Int) ∧ OwnL RowE 29 wr (fun _ => False) w.heap.size s6 (ps.map rowP ++ (ls.take j).map rowL) ∧ Below w.heap.size w wr)
      case atStart => exact ⟨0, by omega, rfl, rfl, by simpa using HO.out, HW.out⟩
      case round =>
        clear HO HW
        obtain ⟨j, hj, rfl, rfl, ho, hb⟩ := hrel
        have hlk : (ps.map rowP ++ (ls.take j).map rowL).length = k + j := by rw [List.length_append, List.length_map, List.length_map, List.length_take, HN.out, HM.out]; omega
        obtain ⟨BM, dM, rfl⟩ := ho.slice
        have HO := Lib.hid ho
        have HV := Lib.hid hb
        clear ho hb
        by_cases hjt : j < m
        · have j1 : (j : Int) < (m : Int) := by omega
          have j0 : (0 : Int) ≤ (j : Int) := by omega
          have HT := Lib.hid (take_map rowL zeroLane ls j (by rw [HM.out]; exact hjt))
          obtain ⟨bk, off, A1, a1, rfl, hbk, c0, c1, c2, c3, c4, c5, c6, c7, s1, lb⟩ := HQ.out.lane j _ (getD_get zeroLane (by rw [HM.out]; exact hjt))
          obtain ⟨x, hx⟩ : ∃ y, ls.getD j zeroLane = y := ⟨_, rfl⟩
          rw [hx] at c0 c1 c2 c3 c4 c5 c6 c7 s1 lb HT
          rw [show rowL x = ((putLane x).1, (putLane x).2.1) from rfl] at HT
          have y0 : wr.cell? ⟨bk, off + j * 8, none⟩ = some (.slice A1 x.key.length a1) := (HV.out.cell (p := ⟨bk, _, none⟩) hbk).trans c0
          have y1 : wr.cell? ⟨bk, off + j * 8 + 1, none⟩ = some (.int .i64 x.side) := (HV.out.cell (p := ⟨bk, _, none⟩) hbk).trans c1
          have y2 : wr.cell? ⟨bk, off + j * 8 + 2, none⟩ = some (.int .i64 x.cur) := (HV.out.cell (p := ⟨bk, _, none⟩) hbk).trans c2
          have y3 : wr.cell? ⟨bk, off + j * 8 + 3, none⟩ = some (.int .i64 x.next) := (HV.out.cell (p := ⟨bk, _, none⟩) hbk).trans c3
          have y4 : wr.cell? ⟨bk, off + j * 8 + 4, none⟩ = some (.int .u64 (x.sc : Int)) := (HV.out.cell (p := ⟨bk, _, none⟩) hbk).trans c4
          have y5 : wr.cell? ⟨bk, off + j * 8 + 5, none⟩ = some (.int .u64 (x.ceil : Int)) := (HV.out.cell (p := ⟨bk, _, none⟩) hbk).trans c5
          have y6 : wr.cell? ⟨bk, off + j * 8 + 6, none⟩ = some (.int .i64 x.sec) := (HV.out.cell (p := ⟨bk, _, none⟩) hbk).trans c6
          have y7 : wr.cell? ⟨bk, off + j * 8 + 7, none⟩ = some (.int .i64 x.nano) := (HV.out.cell (p := ⟨bk, _, none⟩) hbk).trans c7
          have P := Lib.hid (putLane_any A1 a1 x wr (s1.1.below HV.out) lb)
          unfold laneV at P
          generalize hpp : putLane x = pp at HT P
          obtain ⟨pk, pv, pc⟩ := pp
          dsimp only at HT P
          have HLK := Lib.hid hlk
          clear c0 c1 c2 c3 c4 c5 c6 c7 s1 hx hpp lb
          rw [hlk] at HO ⊢
          clear hlk
          go_wp2_with fail
          refine P.out.mono ?_
          rintro e w2 ⟨v1, v2, rfl, o1, o2, hb2⟩
          obtain ⟨A2, a2, rfl, t1⟩ := o1.bs
          obtain ⟨A3, a3, rfl, t2⟩ := o2.bs
          have n1 := Own.nw (w := wr) o1 (Nat.le_refl _)
          have n2 := Own.nw (w := wr) o2 (Nat.le_refl _)
          have hq1 := below_alloc hb2 (.cells #[.slice A2 pk.length a2, .slice A3 pv.length a3] 29)
          have hq2 := below_alloc hq1 (.cells #[.slice A2 pk.length a2, .slice A3 pv.length a3] 29)
          have hq0 := below_alloc (below_alloc (Below.refl w2.heap.size w2) (.cells #[.slice A2 pk.length a2, .slice A3 pv.length a3] 29)) (.cells #[.slice A2 pk.length a2, .slice A3 pv.length a3] 29)
          have p0 := (blk_cell (blk_new w2 (.cells #[.slice A2 pk.length a2, .slice A3 pv.length a3] 29)) 0).trans (b := some (Value.slice A2 pk.length a2)) rfl
          have p1 := (blk_cell (blk_new w2 (.cells #[.slice A2 pk.length a2, .slice A3 pv.length a3] 29)) 1).trans (b := some (Value.slice A3 pv.length a3)) rfl
          have HWA := Lib.hid (below_step HV.out hq2)
          have HX1 := Lib.hid (blk_two w2 (.cells #[.slice A2 pk.length a2, .slice A3 pv.length a3] 29) (.cells #[.slice A2 pk.length a2, .slice A3 pv.length a3] 29))
          have HOA := Lib.hid (HO.out.below hq2)
          have HXA := Lib.hid (fresh_row (W := wr) (k := pk) (v := pv) (N := fun i => (fun _ => False) i ∨ (Value.slice BM (k + j) dM).ownBlock = some i) (t1.below hq0) (t2.below hq0) n1 n2 (fun i hi => hi.elim False.elim (fun h => HO.out.lt h)))
          clear o1 o2 t1 t2 hb2 hq1 hq2 hq0 n1 n2
          go_wp2_with (at_builtin; refine push (E := RowE) 29 74 _ 48 rfl (.tmp 44) (.tmp 46) rfl Try.underlying74 info_row rfl (by decide) (by decide) (by decide) (.slice BM (k + j) dM) (ps.map rowP ++ (ls.take j).map rowL) (pk, pv) [Value.slice A2 pk.length a2, .slice A3 pv.length a3] (w2.heap.size + 1) 1 rfl rfl HOA.out HX1.out HXA.out HWA.out.size (by rw [HLK.out]; omega) ?_ (fun _ h => h.elim); intro A4 c4 w4 o4 k4 n4; rw [HLK.out] at o4 ⊢; rw [List.append_assoc, ← HT.out] at o4; have O4 := Lib.hid o4; have W4 := Lib.hid (below_only HWA.out k4 (fun i hi => HOA.out.base_le hi)); clear o4 k4 n4)
          go_roundg (m - (j + 1))
          case measure => omega
          case rel => exact ⟨j + 1, by omega, rfl, by go_num, O4.out, W4.out⟩
        · obtain rfl : j = m := by omega
          have j1 : ¬ (j : Int) < (j : Int) := by omega
          have htj : ls.take j = ls := List.take_of_length_le (by rw [HM.out]; omega)
          rw [hlk] at HO ⊢
          rw [htj] at HO
          rw [show ps.map rowP ++ ls.map rowL = rws from HRR.out] at HO
          have hlr : rws.length = k + j := by rw [← HRR.out]; unfold rowsPL; rw [List.length_append, List.length_map, List.length_map, HN.out, HM.out]
          obtain ⟨A4, c4, e4, l4⟩ := HO.out.lst (N := fun _ => False) (fun _ _ h => h)
          rw [hlr] at e4
          cases e4
          have L4 := Lib.hid l4
          have HLR := Lib.hid hlr
          clear htj hlk l4 hlr
          go_wp2_with fail
          go_ret
          exact ⟨BM, dM, by show Ending.returned (.slice BM (k + j) dM) = _; rw [HLR.out], L4.out, HV.out⟩
end Go.Proofs.Ytgbjhlkjceonpaa.Lst
/- The same list of sets is the same. -/
namespace Go.Proofs.Ytgbjhlkjceonpaa.Lst
open Go.RowKit Go.Proofs.Ytgbjhlkjceonpaa.K Go.Proofs.Ytgbjhlkjceonpaa.Help Go.Proofs.Ytgbjhlkjceonpaa.Pfx Go.Proofs.Ytgbjhlkjceonpaa.Peer
set_option linter.unusedVariables false

/-- set i of a list -/
theorem Lst.set {w : World} {N : Nat → Prop} {A : Option Addr} {c : Nat} {l : List SetD} (h : Lst SetE w N A c l) (i : Nat) (x : SetD) (hx : l[i]? = some x) :
    ∃ bk off A1 a1 B1 b1, A = some ⟨bk, off, none⟩ ∧ bk < w.heap.size ∧ w.cell? ⟨bk, off + i * 3, none⟩ = some (.slice A1 x.1.length a1) ∧ w.cell? ⟨bk, off + i * 3 + 1, none⟩ = some (.slice B1 x.2.1.length b1) ∧ w.cell? ⟨bk, off + i * 3 + 2, none⟩ = some (.bool x.2.2)
      ∧ BsN w N A1 a1 x.1 ∧ BsN w N B1 b1 x.2.1 := by
  obtain ⟨bk, off, raw, e, hlt, _, hc, A1, a1, B1, b1, hr, h1, h2⟩ := h.at_ i x hx
  subst hr
  exact ⟨bk, off, A1, a1, B1, b1, e, hlt, hc 0 (by decide), hc 1 (by decide), hc 2 (by decide), h1, h2⟩
end Go.Proofs.Ytgbjhlkjceonpaa.Lst
/- append of one struct to an own list at a step of a region that draws. -/
namespace Go.Proofs.Ytgbjhlkjceonpaa.Lst
open Go.RowKit Go.Proofs.Ytgbjhlkjceonpaa.K Go.Proofs.Ytgbjhlkjceonpaa.Help Go.Proofs.Ytgbjhlkjceonpaa.Pfx Go.Proofs.Ytgbjhlkjceonpaa.Peer
set_option linter.unusedVariables false
section
variable {α : Type} {E : Elem α} {P : Program} {ops : Array Oper} {o : Oper} {a : Act} {Q : Exit → Act → World → Prop}
/-- append(v, x) at a step: x laid at block g -/
theorem step_pushE {B : Nat} {W : World} {N : Nat → Prop} {K : Act → World → Prop} {F : Prop} (t ts : TypeId) (z : Value) (bytes : Nat) (hgd : o.guard = none) (s xo : Operand)
    (ho : o.op = .call { callee := .builtin .append, args := #[s, xo], argTypes := #[ts, ts] })
    (ht : P.underlying ts = some (.slice t)) (hinfo : (P.info? t).map (fun i => (i.zero, i.size, i.bytes)) = some (some z, E.sz, bytes)) (hz : z.cells.size = E.sz) (hs0 : 0 < E.sz) (hb1 : 0 < bytes) (hb2 : bytes ≤ 128)
    (v : Value) (l : List α) (x : α) (raw : List Value) (g mc : Nat) (hs : a.eval s = v) (hx : a.eval xo = .slice (some ⟨g, 0, none⟩) 1 mc)
    (HO : OwnL E t W N B v l) (HX : W.heap[g]? = some (.cells raw.toArray t (0, 0))) (hr : E.R W (fun k => N k ∨ v.ownBlock = some k) raw x) (hBW : B ≤ W.heap.size) (hl : l.length ≤ 100000000000)
    (h : ∀ A' c' w1, OwnL E t w1 N B (.slice A' (l.length + 1) c') (l ++ [x]) → Only W w1 (fun k => v.ownBlock = some k) → (∀ k, (Value.slice A' (l.length + 1) c').ownBlock = some k → v.ownBlock = some k ∨ W.heap.size ≤ k) → K (a.put o.dst (.slice A' (l.length + 1) c')) w1)
    (hNn : ∀ k, N k → k < W.heap.size) :
    if Region.wanted o (yielded ops a.tmps) = true then Oper.wp P o a W K Q else F := by
  obtain ⟨raws, hrl, hown, hm, hR⟩ := HO
  obtain ⟨i0, hi, hzz⟩ := Option.map_eq_some_iff.1 hinfo
  simp only [Prod.mk.injEq] at hzz
  obtain ⟨hz0, hz1, hz2⟩ := hzz
  have hraw := E.len hr
  have hbb : (l.length + 1) * bytes ≤ 140737488355328 := Nat.le_trans (Nat.mul_le_mul (show l.length + 1 ≤ 1000000000000 by omega) hb2) (by decide)
  refine step_append_lies W hgd s xo ts ho B t i0 z E.sz bytes ht hi hz0 hz1 hz2 hz hs0 v l.length raws.flatten hs hown ⟨g, 0, none⟩ 1 mc raw hx (by rw [hraw]; omega)
    ?_ (E.one hr) (by decide) (by simp only [maxLen]; omega) hbb hBW _ rfl ?_
  · intro j u hu
    rw [addr_add_plain]
    exact (blk_cell HX j).trans (by simpa using hu)
  · intro g1 cap w1 hown1 hg hat hlt
    have k : Only W w1 (fun k => v.ownBlock = some k) := (Only.refl W (fun k => v.ownBlock = some k)).grown hg (fun k hk => .inl hk)
    have hat2 : ∀ k, (Value.slice (some ⟨g1, 0, none⟩) (l.length + 1) cap).ownBlock = some k → v.ownBlock = some k ∨ W.heap.size ≤ k := fun k hk => by
      have e : g1 = k := by simpa [Value.ownBlock] using hk
      subst e
      rcases hat with hat | hat
      · exact .inl hat
      · exact .inr (by omega)
    generalize hv1 : Value.slice (some ⟨g1, 0, none⟩) (l.length + 1) cap = v1 at *
    have hO : OwnL E t w1 N B v1 (l ++ [x]) := by
      refine ⟨raws ++ [raw], by simp [hrl], ?_, by simp; omega, fun i y r hy hw => ?_⟩
      · rw [List.flatten_append, List.flatten_cons, List.flatten_nil, List.append_nil]; simpa using hown1
      · have hT : E.R W (fun k => N k ∨ v.ownBlock = some k) r y := by
          by_cases hii : i < l.length
          · exact hR i y r (by rw [List.getElem?_append_left hii] at hy; exact hy) (by rw [List.getElem?_append_left (by omega)] at hw; exact hw)
          · have e1 : i = l.length := by
              have := (List.getElem?_eq_some_iff.1 hy).1
              simp at this
              omega
            subst e1
            rw [List.getElem?_append_right (by omega), Nat.sub_self] at hy
            rw [List.getElem?_append_right (by omega), hrl, Nat.sub_self] at hw
            simp only [List.getElem?_cons_zero, Option.some.injEq] at hy hw
            subst hy hw
            exact hr
        have hT2 : E.R W (fun k => (N k ∨ v.ownBlock = some k) ∨ v1.ownBlock = some k) r y := E.reno hT (fun k hk => hk.elim .inl (fun h => (hat2 k h).imp .inr id))
        exact E.reno (E.only hT2 k (fun i _ hi => .inl (.inr hi))) (fun k hk => .inl (hk.elim (fun h => .inl (.inl h)) .inr))
    subst hv1
    exact h _ cap w1 hO k hat2
end
end Go.Proofs.Ytgbjhlkjceonpaa.Lst
