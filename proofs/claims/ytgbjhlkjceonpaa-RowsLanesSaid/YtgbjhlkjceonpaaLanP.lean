/- Lanes as plain data; the append of a list of bytes. -/
import Derived.Test.YtgbjhlkjceonpaaGetB3
import Derived.Deep.RegionHeld3
import Derived.Deep.AppendLies
namespace Go.Proofs.Ytgbjhlkjceonpaa.Help
open Go.RowKit Go.Proofs.Ytgbjhlkjceonpaa.K
set_option linter.unusedVariables false

/-- a lane's data -/
structure LaneD where
  key : List UInt8
  side : Int
  cur : Int
  next : Int
  sc : Nat
  ceil : Nat
  sec : Int
  nano : Int
def laneV (A : Option Addr) (c : Nat) (d : LaneD) : Value :=
  .agg #[.slice A d.key.length c, .int .i64 d.side, .int .i64 d.cur, .int .i64 d.next, .int .u64 (d.sc : Int), .int .u64 (d.ceil : Int), .int .i64 d.sec, .int .i64 d.nano]
/-- the bounds of the numbers -/
structure LaneB (d : LaneD) : Prop where
  sc : d.sc < 18446744073709551616
  ceil : d.ceil < 18446744073709551616
  sec : d.sec ≤ 9223372036854775807
def laneOk (d : LaneD) : Prop := d.key.length = 32 ∧ (d.side = 0 ∨ d.side = 1) ∧ 1 ≤ d.cur ∧ d.cur ≤ 2147483647 ∧ 0 ≤ d.next ∧ d.next ≤ 2147483647 ∧ stV d.sec d.nano = true
instance (d : LaneD) : Decidable (laneOk d) := by unfold laneOk; infer_instance
def laneVal (side cur next sc ceil sec nano : Nat) : List UInt8 := (((([UInt8.ofNat side] ++ be 4 cur) ++ be 4 next) ++ be 8 sc) ++ be 8 ceil) ++ stPut sec nano
theorem laneVal_len (side cur next sc ceil sec nano : Nat) : (laneVal side cur next sc ceil sec nano).length = 37 := by simp [laneVal, be_len, stPut]
def putLane (d : LaneD) : List UInt8 × List UInt8 × Int :=
  if laneOk d then ([76] ++ d.key, laneVal d.side.toNat d.cur.toNat d.next.toNat d.sc d.ceil d.sec.toNat d.nano.toNat, 0) else ([], [], 114)
theorem putLane_no {d : LaneD} (h : ¬ laneOk d) : putLane d = ([], [], 114) := if_neg h
theorem putLane_yes {d : LaneD} (h : laneOk d) : putLane d = ([76] ++ d.key, laneVal d.side.toNat d.cur.toNat d.next.toNat d.sc d.ceil d.sec.toNat d.nano.toNat, 0) := if_pos h
theorem putLane_len {d : LaneD} (h : (putLane d).2.2 = 0) : (putLane d).1.length = 33 ∧ (putLane d).2.1.length = 37 := by
  by_cases h1 : laneOk d
  · rw [putLane_yes h1]; exact ⟨by simp [h1.1], laneVal_len ..⟩
  · rw [putLane_no h1] at h; cases h

theorem Own.blk_lt {w : World} {base : Nat} {v : Value} {l : List UInt8} (h : Own w base v l) {i : Nat} (hi : v.ownBlock = some i) : i < w.heap.size := by
  rcases h.1.2 with ⟨rfl, _⟩ | ⟨g, cap, cur, rfl, hb, hh, _⟩
  · simp [Value.ownBlock] at hi
  · have : g = i := by simpa [Value.ownBlock] using hi
    subst this
    exact K.blk_lt hh
section
variable {ops : Array Oper} {rest : List Oper} {o : Oper} {a : Act} {Q : Exit → Act → World → Prop}
/-- append(v, m...), v a slice of bytes of the call's own, from block B on; m not empty -/
theorem push_many {B : Nat} {W0 W : World} (hgd : o.guard = none) (s x : Operand)
    (ho : o.op = .call { callee := .builtin .append, args := #[s, x], argTypes := #[22, 22] })
    (v : Value) (l m : List UInt8) (A : Option Addr) (mc : Nat) (hs : a.eval s = v) (hx : a.eval x = .slice A m.length mc)
    (HO : Own W B v l) (HM : Bs W A mc m) (hm : 0 < m.length) (HB : Below B W0 W) (hBW : B ≤ W.heap.size) (hl : l.length + m.length ≤ 140737488355328)
    (h : ∀ A' c' w1, Own w1 B (.slice A' (l ++ m).length c') (l ++ m) → Below B W0 w1 → Only W w1 (fun k => v.ownBlock = some k) → wpList Try.prog ops Q rest (a.put o.dst (.slice A' (l ++ m).length c')) w1) :
    wpList Try.prog ops Q (o :: rest) a W := by
  obtain ⟨i0, hi, hzz⟩ := Option.map_eq_some_iff.1 info_u8
  simp only [Prod.mk.injEq] at hzz
  obtain ⟨hz0, hz1, hz2⟩ := hzz
  obtain ⟨ad, rfl, _⟩ := HM.at_ 0 hm
  refine wpList_append_own_at W hgd s x _ ho B 5 i0 (.int .u8 0) 1 1 Try.underlying22 hi hz0 hz1 hz2 rfl (by omega) v l.length (u8s l) hs HO.1 ad m.length mc (u8s m) hx (by rw [u8s_len]; omega)
    (HM.cells rfl) (by intro u hu; simp only [u8s, u8, List.mem_map] at hu; obtain ⟨q, _, rfl⟩ := hu; rfl) (by simp only [maxLen]; omega) (by omega) hBW ?_
  intro v1 w1 hown hg _ hat
  have hO : Own w1 B v1 (l ++ m) := by
    refine ⟨?_, by simp; omega⟩
    rw [u8s_app]; simpa using hown
  obtain ⟨A', c', rfl, _⟩ := hO.bs
  exact h A' c' w1 hO (HB.grown hg hBW (fun k hk => HO.base_le hk)) ((Only.refl W (fun k => v.ownBlock = some k)).grown hg (fun k hk => .inl hk))
/-- the same at a step of a region that draws -/
theorem step_push {B : Nat} {W : World} {K : Act → World → Prop} {E : Prop} (hgd : o.guard = none) (s x : Operand)
    (ho : o.op = .call { callee := .builtin .append, args := #[s, x], argTypes := #[22, 22] })
    (v : Value) (l m : List UInt8) (A : Option Addr) (mc : Nat) (hs : a.eval s = v) (hx : a.eval x = .slice A m.length mc)
    (HO : Own W B v l) (HM : Bs W A mc m) (hm : 0 < m.length) (hBW : B ≤ W.heap.size) (hl : l.length + m.length ≤ 140737488355328)
    (h : ∀ A' c' w1, Own w1 B (.slice A' (l ++ m).length c') (l ++ m) → Only W w1 (fun k => v.ownBlock = some k) → K (a.put o.dst (.slice A' (l ++ m).length c')) w1) :
    if Region.wanted o (yielded ops a.tmps) = true then Oper.wp Try.prog o a W K Q else E := by
  obtain ⟨i0, hi, hzz⟩ := Option.map_eq_some_iff.1 info_u8
  simp only [Prod.mk.injEq] at hzz
  obtain ⟨hz0, hz1, hz2⟩ := hzz
  obtain ⟨ad, rfl, _⟩ := HM.at_ 0 hm
  refine step_append_lies W hgd s x _ ho B 5 i0 (.int .u8 0) 1 1 Try.underlying22 hi hz0 hz1 hz2 rfl (by omega) v l.length (u8s l) hs HO.1 ad m.length mc (u8s m) hx (by rw [u8s_len]; omega)
    (HM.cells rfl) (by intro u hu; simp only [u8s, u8, List.mem_map] at hu; obtain ⟨q, _, rfl⟩ := hu; rfl) hm (by simp only [maxLen]; omega) (by omega) hBW _ rfl ?_
  intro g cap w1 hown hg hat hlt
  have e : (l ++ m).length = l.length + m.length := by simp
  have hO : Own w1 B (.slice (some ⟨g, 0, none⟩) (l.length + m.length) cap) (l ++ m) := by
    refine ⟨?_, by simp; omega⟩
    rw [u8s_app, e]; exact hown
  rw [← e] at hO ⊢
  exact h _ cap w1 hO ((Only.refl W (fun k => v.ownBlock = some k)).grown hg (fun k hk => .inl hk))
end
end Go.Proofs.Ytgbjhlkjceonpaa.Help
