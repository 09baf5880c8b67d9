/- The walks of the document's helpers: SameBytes, Bytes; of bytes.Equal. -/
import Derived.Test.YtgbjhlkjceonpaaBytes
namespace Go.Proofs.Ytgbjhlkjceonpaa.Help
open Go.RowKit Go.Proofs.Ytgbjhlkjceonpaa.K
set_option linter.unusedVariables false

/-- a pure answer: old memory stays -/
def Pure (w : World) (v : Value) (e : Ending) (w' : World) : Prop := e = .returned v ∧ Below w.heap.size w w'
theorem quiet_pure {w : World} {v : Value} {e : Ending} {w' : World} (h : Quiet v w e w') : Pure w v e w' := by
  obtain ⟨n, rfl, rfl⟩ := h; exact ⟨rfl, below_drewN (Below.refl _ _) n⟩
theorem take_snoc8 {l : List UInt8} {i : Nat} (h : i < l.length) : l.take (i + 1) = l.take i ++ [l.getD i 0] := by
  rw [List.take_succ_eq_append_getElem h]; simp [h]

set_option maxRecDepth 100000 in
theorem sameBytes (A B : Option Addr) (c d : Nat) (l m : List UInt8) (w : World) (ha : Bs w A c l) (hb : Bs w B d m) :
    Calls Try.prog 42 #[.slice A l.length c, .slice B m.length d] w (Quiet (.bool (decide (l = m))) w) := by
  have HA := Lib.hid ha
  have HB := Lib.hid hb
  have h1 := ha.max
  have h2 := hb.max
  clear ha hb
  obtain ⟨t, ht⟩ : ∃ t, decide (l = m) = t := ⟨_, rfl⟩
  rw [ht]
  have HT := Lib.hid ht
  clear ht
  by_cases hl : l.length = m.length
  · have hne : ((l.length : Int) != m.length) = false := by rw [bne_eq_false_iff_eq]; omega
    have HLL := Lib.hid hl
    clear hl
    go_enter Try.func42, Try.ntmps42
    go_wp2_with fail
    go_loopg [5] l.length (fun gk i wr => ∃ k : Nat, k ≤ l.length ∧ gk = l.length - k ∧ i = .int .i64 (k : Int) ∧ l.take k = m.take k ∧ ∃ q, wr = w.drewN q)
    case atStart => exact ⟨0, by omega, rfl, rfl, by simp, 0, rfl⟩
    case round =>
      obtain ⟨k, hk, rfl, rfl, hT, q, rfl⟩ := hrel
      have HTK := Lib.hid hT
      clear hT
      by_cases hlt : k < l.length
      · have hlm : k < m.length := by rw [← HLL.out]; exact hlt
        obtain ⟨ad, e1, _, c1⟩ := HA.out.at_ k hlt
        obtain ⟨bd, e2, _, c2⟩ := HB.out.at_ k hlm
        subst e1 e2
        have hkm : (k : Int) < m.length := by omega
        by_cases hx : l.getD k 0 = m.getD k 0
        · have hx1 : (((l.getD k 0).toNat : Int) != (m.getD k 0).toNat) = false := by rw [hx]; simp
          have HN := Lib.hid (show l.take (k + 1) = m.take (k + 1) by rw [take_snoc8 hlt, take_snoc8 hlm, HTK.out, hx])
          clear hx
          generalize l.getD k 0 = x at *
          generalize m.getD k 0 = y at *
          go_wp2_with fail
          go_quiet (fail)
          go_wp2_with fail
          go_roundg (l.length - (k + 1))
          case measure => omega
          case rel => exact ⟨k + 1, by omega, rfl, by go_num, HN, _, rfl⟩
        · have hx1 : (((l.getD k 0).toNat : Int) != (m.getD k 0).toNat) = true := by
            rw [bne_iff_ne]; intro h; exact hx (UInt8.toNat_inj.1 (by omega))
          have HF : Hid (t = false) := by rw [Hid, ← HT.out]; exact decide_eq_false (fun e => hx (by rw [e]))
          clear hx
          generalize l.getD k 0 = x at *
          generalize m.getD k 0 = y at *
          go_wp2_with fail
          go_quiet (fail)
          go_wp2_with fail
          go_ret
          exact ⟨q + nq, ret_bool HF.out.symm, World.drewN_drewN ..⟩
      · obtain rfl : k = l.length := by omega
        have HF : Hid (t = true) := by
          have h := HTK.out
          rw [List.take_of_length_le (by omega), List.take_of_length_le (by rw [HLL.out]; omega)] at h
          rw [Hid, ← HT.out]; exact decide_eq_true h
        go_wp2_with fail
        go_ret
        exact ⟨_, ret_bool HF.out.symm, rfl⟩
  · have hne : ((l.length : Int) != m.length) = true := by rw [bne_iff_ne]; omega
    have HF : Hid (t = false) := by rw [Hid, ← HT.out]; exact decide_eq_false (fun e => hl (by rw [e]))
    clear hl
    go_enter Try.func42, Try.ntmps42
    go_wp2_with fail
    go_ret
    exact ⟨0, ret_bool HF.out.symm, rfl⟩

/-- an own row of bytes with one more -/
theorem Own.push {w1 : World} {base : Nat} {v1 : Value} {l : List UInt8} {b : UInt8} (h : w1.ownsRow base 5 1 v1 (l.length + 1) (u8s l ++ [.int .u8 (b.toNat : Int)])) (hl : l.length + 1 ≤ 140737488355328) : Own w1 base v1 (l ++ [b]) := by
  refine ⟨?_, by simp; omega⟩
  rw [u8s_snoc]; simpa using h

section
variable {P : Program} {ops : Array Oper} {rest : List Oper} {o : Oper} {a : Act} {Q : Exit → Act → World → Prop}
/-- append(v, b), v a slice of bytes of the call's own, from block B on: what is known behind it -/
theorem push_at {B : Nat} {W0 W : World} (hgd : o.guard = none) (s x : Operand)
    (ho : o.op = .call { callee := .builtin .append, args := #[s, x], argTypes := #[22, 22] })
    (v : Value) (l : List UInt8) (b : UInt8) (hs : a.eval s = v) (hx : a.eval x = .slice (some ⟨W.heap.size, 0, none⟩) 1 1)
    (HO : Own W B v l) (HB : Below B W0 W) (hBW : B ≤ W.heap.size) (hl : l.length + 1 ≤ 140737488355328)
    (h : ∀ A c w1, Own w1 B (.slice A (l.length + 1) c) (l ++ [b]) → Below B W0 w1 → wpList Try.prog ops Q rest (a.put o.dst (.slice A (l.length + 1) c)) w1) :
    wpList Try.prog ops Q (o :: rest) a (W.alloc (.cells #[.int .u8 (b.toNat : Int)] 5)) := by
  obtain ⟨i0, hi, hzz⟩ := Option.map_eq_some_iff.1 info_u8
  simp only [Prod.mk.injEq] at hzz
  obtain ⟨hz0, hz1, hz2⟩ := hzz
  refine wpList_append_own_at (W.alloc (.cells #[.int .u8 (b.toNat : Int)] 5)) hgd s x _ ho B 5 i0 (.int .u8 0) 1 1 Try.underlying22 hi hz0 hz1 hz2 rfl (by omega) v l.length (u8s l) hs (HO.1.alloc _) ⟨W.heap.size, 0, none⟩ 1 1 [.int .u8 (b.toNat : Int)] hx rfl
    (World.news_of_block (cs := #[.int .u8 (b.toNat : Int)]) (t := 5) (fr := (0, 0)) (heap_alloc_new W _)) (by intro u hu; simp at hu; rw [hu]; rfl) (by simp only [maxLen]; omega) (by omega) (by simp; omega) ?_
  intro v1 w1 hown hg _ hat
  have hO := Own.push hown hl
  obtain ⟨A, c, rfl, _⟩ := hO.bs
  have e : (l ++ [b]).length = l.length + 1 := by simp
  rw [e] at hO ⊢
  exact h A c w1 hO ((HB.alloc hBW _).grown hg (by simp; omega) (fun k hk => HO.base_le hk))
theorem push_u8 {W0 W : World} (hgd : o.guard = none) (s x : Operand)
    (ho : o.op = .call { callee := .builtin .append, args := #[s, x], argTypes := #[22, 22] })
    (v : Value) (l : List UInt8) (b : UInt8) (hs : a.eval s = v) (hx : a.eval x = .slice (some ⟨W.heap.size, 0, none⟩) 1 1)
    (HO : Own W W0.heap.size v l) (HB : Below W0.heap.size W0 W) (hl : l.length + 1 ≤ 140737488355328)
    (h : ∀ A c w1, Own w1 W0.heap.size (.slice A (l.length + 1) c) (l ++ [b]) → Below W0.heap.size W0 w1 → wpList Try.prog ops Q rest (a.put o.dst (.slice A (l.length + 1) c)) w1) :
    wpList Try.prog ops Q (o :: rest) a (W.alloc (.cells #[.int .u8 (b.toNat : Int)] 5)) := push_at hgd s x ho v l b hs hx HO HB HB.size hl h
end

set_option maxRecDepth 100000 in
theorem bytes (A : Option Addr) (c : Nat) (l : List UInt8) (w : World) (ha : Bs w A c l) :
    Calls Try.prog 38 #[.slice A l.length c] w (Ret w l) := by
  have HA := Lib.hid ha
  have h1 := ha.max
  clear ha
  go_enter Try.func38, Try.ntmps38
  go_wp2_with fail
  go_loopg [3, 4] l.length (fun gk v i wr => ∃ k : Nat, k ≤ l.length ∧ gk = l.length - k ∧ i = .int .i64 (k : Int) ∧ Own wr w.heap.size v (l.take k) ∧ Below w.heap.size w wr)
  case atStart => exact ⟨0, by omega, rfl, rfl, by simpa using Own.nil w _, Below.refl _ _⟩
  case round =>
    obtain ⟨k, hk, rfl, rfl, hO, hB⟩ := hrel
    obtain ⟨VA, vc, rfl, _⟩ := hO.bs
    have hlk : (l.take k).length = k := by rw [List.length_take]; omega
    have HO := Lib.hid hO
    have HB := Lib.hid hB
    clear hO hB
    rw [hlk] at HO
    rw [hlk]
    by_cases hlt : k < l.length
    · obtain ⟨ad, e1, hlt2, c1⟩ := HA.out.at_ k hlt
      subst e1
      have c2 := (HB.out.cell (p := ad.add k) (by rw [addr_add_block]; exact hlt2)).trans c1
      have HX := Lib.hid (take_snoc8 hlt)
      have HK := Lib.hid hlk
      clear c1 hlk hlt2
      generalize l.getD k 0 = x at *
      go_wp2_with (at_builtin; refine push_u8 (W0 := w) rfl (.tmp 11) (.tmp 16) rfl (.slice VA k vc) (l.take k) x rfl rfl HO.out HB.out (by rw [HK.out]; omega) ?_; intro A1 c1 w1 hO1 hB1; rw [HK.out] at hO1 ⊢; have HO1 := Lib.hid hO1; have HB1 := Lib.hid hB1; clear hO1 hB1)
      go_roundg (l.length - (k + 1))
      case measure => omega
      case rel =>
        refine ⟨k + 1, by omega, rfl, by go_num, ?_, HB1.out⟩
        rw [HX.out]; exact HO1.out
    · obtain rfl : k = l.length := by omega
      go_wp2_with fail
      go_ret
      refine ⟨_, rfl, ?_, HB.out⟩
      have := HO.out
      rwa [List.take_of_length_le (by omega)] at this
end Go.Proofs.Ytgbjhlkjceonpaa.Help
