/- How a law's statement follows from a walk that ends in true and leaves all old memory as it was. -/
import Derived.Test.YtgbjhlkjceonpaaRows
import Derived.Test.YtgbjhlkjceonpaaBase
import Derived.ChangeSlices
import Derived.ChangeSame
import Derived.Carry
import Derived.SizedLaws
import Derived.OpenShut
namespace Go.Proofs.Ytgbjhlkjceonpaa.K
open Go.ChangeShapes Go.WideShapes Go.ChangeAt Go.RowKit

theorem trodAll_below {H : Type} {enc : TypeId × Value → H} {P : Program} (hl : laidOutB P = true) {W W' : World} (hb : Below W.heap.size W W') {sp : Nat → Bool} :
    ∀ (ts : List TypeId) (vs : List Value) (ds : List (DataW H)) (ps : List MemPlace), (∀ t ∈ ts, P.readableRec t = true ∧ t < P.types.size) → DataW.TrodAll enc P W 0 (fun _ => true) true ts vs ds ps →
      (∀ p ∈ ps, p.block < W.heap.size) → (∀ p ∈ ps, sp p.block = true) → DataW.TrodAll enc P W' 0 sp true ts vs ds ps := by
  intro ts
  induction ts with
  | nil =>
    intro vs ds ps _ h _ _
    obtain ⟨rfl, rfl, rfl⟩ := trodAll_nil h
    exact trodAll_mk0
  | cons t ts ih =>
    intro vs ds ps hr h hlt hsp
    obtain ⟨v, vs', d, ds', p, q, rfl, rfl, rfl, h1, h2⟩ := trodAll_cons h
    have hp : ∀ x ∈ p, x ∈ p ++ q := fun x hx => List.mem_append.2 (.inl hx)
    have hq : ∀ x ∈ q, x ∈ p ++ q := fun x hx => List.mem_append.2 (.inr hx)
    exact trodAll_cons_mk (WideElems.Trod_stays hl (hr t (by simp)).1 (hr t (by simp)).2 h1 (fun x hx => hb.same (hlt x (hp x hx))) (fun x hx => hsp x (hp x hx)))
      (ih vs' ds' q (fun t ht => hr t (by simp [ht])) h2 (fun x hx => hlt x (hq x hx)) (fun x hx => hsp x (hq x hx)))

theorem post_law {H : Type} {enc : TypeId × Value → H} {P : Program} {f : Func} {s : ChangeSpec} {apart : Bool} {W W' : World} {args : Array Value} {ds : List (DataW H)} {before : List MemPlace} (hl : laidOutB P = true)
    (hr : ∀ t ∈ f.params.toList, P.readableRec t = true ∧ t < P.types.size) (hW : DataW.Whole enc P f.params.toList [] apart W args.toList ds [] before) (hv : s.vars = [])
    (hs : s.fn H ds = { results := [.lit (.bool true)], args := ds }) {tb : TypeId} (hrt : f.resultTypes = #[tb]) (htb : P.underlying tb = some .bool) (hb : Below W.heap.size W W') :
    s.post enc P f apart true false false W args (.bool true) W' := by
  have hlt : ∀ p ∈ before, p.block < W.heap.size := fun p hp => hW.lt p hp
  have hold : ∀ p ∈ before, (fun b => decide (b < W.heap.size)) p.block = true := fun p hp => by simpa using hlt p hp
  have hW' := hW
  obtain ⟨p, q, hA0, hV, rfl, _, _⟩ := hW
  obtain ⟨_, rfl⟩ := trodVars_none hV
  simp only [List.append_nil] at *
  have hA : DataW.TrodAll enc P W 0 (fun _ => true) true f.params.toList args.toList ds p := hA0
  have hargs : ∀ sp : Nat → Bool, (∀ x ∈ p, sp x.block = true) → DataW.TrodAll enc P W' 0 sp true f.params.toList args.toList ds p := fun sp h => trodAll_below hl hb _ _ _ _ hr hA hlt h
  have hres : ∀ (b : Nat) (sp : Nat → Bool) (hd : Bool), DataW.TrodAll enc P W' b sp hd f.resultTypes.toList ((Value.bool true).resultList f.resultTypes.size) [.lit (.bool true)] [] := fun b sp hd => by
    rw [hrt]; exact trodAll_mk1 (shut_bool htb true)
  refine ⟨ds, [], p, [], p, [], by rw [hv]; exact hW', by rw [List.append_nil, hs]; exact hres _ _ _, by rw [List.append_nil, hs]; exact hargs _ hold, by rw [hv, List.append_nil, hs]; exact rfl, World.keptBut_mono (fun x hx => ⟨hx, ?_⟩) (hb.frame (· ∈ p)), fun h => by cases h⟩
  simpa using hx

/-! arguments as they come in -/
/-- a slice of whole numbers that came in, nil let in -/
structure ReadsI (k : IntKind) (w : World) (A : Option Addr) (n : Nat) (xs : List Int) : Prop where
  len : xs.length = n
  max : n ≤ 9223372036854775807
  wf : ∀ x, x ∈ xs → (Lit.int k x).wf = true
  at_ : ∀ i, i < n → ∃ ad, A = some ad ∧ ad.block < w.heap.size ∧ w.cell? (ad.add i) = some (.int k (xs.getD i 0))
theorem block_add (a : Addr) (n : Nat) : (a.add n).block = a.block := by unfold Addr.add; split <;> rfl
theorem ReadsI.below {k : IntKind} {w w' : World} {A : Option Addr} {n : Nat} {xs : List Int} (h : ReadsI k w A n xs) (hb : Below w.heap.size w w') : ReadsI k w' A n xs :=
  ⟨h.len, h.max, h.wf, fun i hi => by
    obtain ⟨ad, e, hlt, hc⟩ := h.at_ i hi
    exact ⟨ad, e, Nat.lt_of_lt_of_le hlt hb.size, (hb.cell (p := ad.add i) (by rw [block_add]; exact hlt)).trans hc⟩⟩
theorem arg_ints {H : Type} {enc : TypeId × Value → H} {P : Program} {W : World} {k : IntKind} {b0 : Nat} {t e : TypeId} {v : Value} {d : DataW H} {ps : List MemPlace} (ht : P.underlying t = some (.slice e)) (he : P.underlying e = some (.int k)) (hc : P.cellsOf e = 1)
    (hval : Value.okWide P W .any b0 t v) (h : DataW.Trod enc P W 0 (fun _ => true) true t v d ps) : ∃ A len cap xs, v = .slice A len cap ∧ ReadsI k W A len xs ∧ xs.length = len ∧ len ≤ cap ∧ cap ≤ 9223372036854775807 := by
  obtain ⟨a0, len, cap, rfl⟩ := okWide_slice ht hval
  obtain ⟨fuel, hf⟩ := h
  rcases open_ints ht he hc hf with ⟨hcs, hx⟩ | ⟨a, len', cap', zs, hcs, _, hl, hm, hz, hx, hcell, hwz⟩
  · simp [Value.cells] at hcs
    obtain ⟨rfl, rfl, rfl⟩ := hcs
    exact ⟨none, 0, 0, [], rfl, ⟨rfl, by omega, (fun x hx => by cases hx), fun i hi => by omega⟩, rfl, by omega, by omega⟩
  · simp [Value.cells] at hcs
    obtain ⟨rfl, rfl, rfl⟩ := hcs
    simp only [if_true] at hz
    have hlt : (zs.take len).length = len := by rw [List.length_take]; omega
    unfold maxLen at hm
    refine ⟨some a, len, cap, zs.take len, rfl, ⟨hlt, by omega, fun x hx => hwz x (List.mem_of_mem_take hx), fun i hi => ⟨a, rfl, ?_, ?_⟩⟩, hlt, hl, by omega⟩
    · have := World.block_lt_of_cell? W (a.add 0) (hcell 0 (by omega))
      rwa [block_add] at this
    · rw [hcell i (by omega)]
      simp [List.getD_eq_getElem?_getD, hi]
theorem wf_u64 {a : Int} (h : (Lit.int .u64 a).wf = true) : 0 ≤ a ∧ a ≤ 18446744073709551615 := by simpa [Lit.wf, IntKind.min, IntKind.max, IntKind.signed, IntKind.bits] using h
theorem wf_i64 {a : Int} (h : (Lit.int .i64 a).wf = true) : -9223372036854775808 ≤ a ∧ a ≤ 9223372036854775807 := by simpa [Lit.wf, IntKind.min, IntKind.max, IntKind.signed, IntKind.bits] using h
theorem nat_u64 {a : Int} (h : (Lit.int .u64 a).wf = true) : ∃ n : Nat, a = n ∧ n < 18446744073709551616 := by
  have := wf_u64 h
  exact ⟨a.toNat, by omega, by omega⟩
/-- a slice of uint64 that came in -/
structure ReadsU (w : World) (A : Option Addr) (n : Nat) (xs : List Nat) : Prop where
  len : xs.length = n
  max : n ≤ 9223372036854775807
  lt : ∀ x, x ∈ xs → x < 18446744073709551616
  at_ : ∀ i, i < n → ∃ ad, A = some ad ∧ ad.block < w.heap.size ∧ w.cell? (ad.add i) = some (.int .u64 (xs.getD i 0 : Nat))
theorem ReadsU.below {w w' : World} {A : Option Addr} {n : Nat} {xs : List Nat} (h : ReadsU w A n xs) (hb : Below w.heap.size w w') : ReadsU w' A n xs :=
  ⟨h.len, h.max, h.lt, fun i hi => by
    obtain ⟨ad, e, hlt, hc⟩ := h.at_ i hi
    exact ⟨ad, e, Nat.lt_of_lt_of_le hlt hb.size, (hb.cell (p := ad.add i) (by rw [block_add]; exact hlt)).trans hc⟩⟩
theorem arg_u64s {H : Type} {enc : TypeId × Value → H} {P : Program} {W : World} {b0 : Nat} {t e : TypeId} {v : Value} {d : DataW H} {ps : List MemPlace} (ht : P.underlying t = some (.slice e)) (he : P.underlying e = some (.int .u64)) (hc : P.cellsOf e = 1)
    (hval : Value.okWide P W .any b0 t v) (h : DataW.Trod enc P W 0 (fun _ => true) true t v d ps) : ∃ A len cap xs, v = .slice A len cap ∧ ReadsU W A len xs ∧ xs.length = len ∧ len ≤ cap ∧ cap ≤ 9223372036854775807 := by
  obtain ⟨A, len, cap, xs, rfl, hr, h1, h2, h3⟩ := arg_ints ht he hc hval h
  refine ⟨A, len, cap, xs.map Int.toNat, rfl, ⟨by rw [List.length_map]; exact hr.len, hr.max, ?_, fun i hi => ?_⟩, by rw [List.length_map]; exact h1, h2, h3⟩
  · intro x hx
    obtain ⟨y, hy, rfl⟩ := List.mem_map.1 hx
    have := wf_u64 (hr.wf y hy)
    omega
  · obtain ⟨ad, e, hlt, hcell⟩ := hr.at_ i hi
    refine ⟨ad, e, hlt, hcell.trans ?_⟩
    have hi' : i < xs.length := by have := hr.len; omega
    have hw := wf_u64 (hr.wf _ (List.getElem_mem hi'))
    simp only [List.getD_eq_getElem?_getD, List.getElem?_map, List.getElem?_eq_getElem hi', Option.map_some, Option.getD_some]
    congr 2
    omega
end Go.Proofs.Ytgbjhlkjceonpaa.K
