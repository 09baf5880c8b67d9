/- The walks of stamps, the rest: culvertref6.Put; both Gets. -/
import Derived.Test.YtgbjhlkjceonpaaStamp
namespace Go.Proofs.Ytgbjhlkjceonpaa.Help
open Go.RowKit Go.Proofs.Ytgbjhlkjceonpaa.K
set_option linter.unusedVariables false

theorem stPut_len (sec nano : Nat) : (stPut sec nano).length = 12 := by simp [stPut, be_len]
theorem stPut_a (sec nano j : Nat) (h : j < 8) : (stPut sec nano).getD j 0 = UInt8.ofNat (sec / 2 ^ (56 - 8 * j)) := by
  unfold stPut
  have h1 := be_get 8 sec j h
  rw [List.getD_eq_getElem?_getD] at h1 ⊢
  rw [List.getElem?_append_left (by rw [be_len]; exact h), h1, show 8 * (8 - 1 - j) = 56 - 8 * j by omega]
theorem stPut_b (sec nano j : Nat) (h : j < 4) : (stPut sec nano).getD (8 + j) 0 = UInt8.ofNat (nano / 2 ^ (24 - 8 * j)) := by
  unfold stPut
  have h1 := be_get 4 nano j h
  rw [List.getD_eq_getElem?_getD] at h1 ⊢
  rw [List.getElem?_append_right (by rw [be_len]; omega), be_len, show 8 + j - 8 = j by omega, h1, show 8 * (4 - 1 - j) = 24 - 8 * j by omega]
theorem kind8_a (x j : Nat) (h : j < 8) : IntKind.u8.wrap ((x : Int) / 2 ^ (56 - 8 * j)) = ((UInt8.ofNat (x / 2 ^ (56 - 8 * j))).toNat : Int) := by
  have := kind8 x (7 - j)
  rwa [show 8 * (7 - j) = 56 - 8 * j by omega] at this
theorem kind8_b (x j : Nat) (h : j < 4) : IntKind.u8.wrap ((x : Int) / 2 ^ (24 - 8 * j)) = ((UInt8.ofNat (x / 2 ^ (24 - 8 * j))).toNat : Int) := by
  have := kind8 x (3 - j)
  rwa [show 8 * (3 - j) = 24 - 8 * j by omega] at this

/-- the document's Put: the stamp in a block, the bytes so far -/
structure StR (w wr : World) (sec nano : Nat) (v : Value) (l : List UInt8) : Prop where
  s : wr.heap[w.heap.size]? = some (.cells #[.int .i64 (sec : Int), .int .i64 (nano : Int)] 25 (0, 0))
  o : Own wr (w.heap.size + 1) v l
  below : Below (w.heap.size + 1) (w.alloc (.cells #[.int .i64 (sec : Int), .int .i64 (nano : Int)] 25)) wr
theorem StR.c0 {w wr : World} {sec nano : Nat} {v : Value} {l : List UInt8} (h : StR w wr sec nano v l) : wr.cell? ⟨w.heap.size, 0, none⟩ = some (.int .i64 (sec : Int)) := (blk_cell h.s 0).trans rfl
theorem StR.c1 {w wr : World} {sec nano : Nat} {v : Value} {l : List UInt8} (h : StR w wr sec nano v l) : wr.cell? ⟨w.heap.size, 1, none⟩ = some (.int .i64 (nano : Int)) := (blk_cell h.s 1).trans rfl
theorem StR.mk' {w wr : World} {sec nano : Nat} {v : Value} {l : List UInt8} (o : Own wr (w.heap.size + 1) v l) (b : Below (w.heap.size + 1) (w.alloc (.cells #[.int .i64 (sec : Int), .int .i64 (nano : Int)] 25)) wr) : StR w wr sec nano v l :=
  ⟨(b.block w.heap.size (by omega)).trans (blk_new w _), o, b⟩

theorem StR.size {w wr : World} {sec nano : Nat} {v : Value} {l : List UInt8} (h : StR w wr sec nano v l) : w.heap.size + 1 ≤ wr.heap.size := by
  have := h.below.size
  simp at this; omega
theorem StR.below0 {w wr : World} {sec nano : Nat} {v : Value} {l : List UInt8} (h : StR w wr sec nano v l) : Below w.heap.size w wr :=
  ((Below.refl w.heap.size w).alloc (Nat.le_refl _) _).trans (h.below.mono (by omega))
set_option maxRecDepth 100000 in
theorem refPut_yes (sec nano : Nat) (w : World) (h1 : sec ≤ 9223372036854775807) (h2 : nano ≤ 999999999) :
    Calls Try.prog 41 #[.agg #[.int .i64 (sec : Int), .int .i64 (nano : Int)]] w (Ret w (stPut sec nano)) := by
  have hv : stV sec nano = true := by unfold stV; simp; omega
  have HV := Lib.hid (fun w => refValid sec nano w)
  rw [hv] at HV
  clear hv
  have hlen := stPut_len sec nano
  go_enter Try.func41, Try.ntmps41
  go_wp2_with fail
  refine (HV.out _).mono ?_
  rintro e w1 ⟨rfl, hb⟩
  have hb2 : Below (w.heap.size + 1) (w.alloc (.cells #[.int .i64 (sec : Int), .int .i64 (nano : Int)] 25)) w1 := by have := hb; simpa using this
  have HB1 := Lib.hid hb2
  have HLN := Lib.hid hlen
  have HZ1 : Hid (w.heap.size + 1 ≤ w1.heap.size) := by have := hb.size; simp at this; exact this
  clear hb hb2 hlen
  go_wp2_with fail
  go_loopg [4, 5] 8 (fun gk v i wr => ∃ j : Nat, j ≤ 8 ∧ gk = 8 - j ∧ i = .int .i64 (j : Int) ∧ StR w wr sec nano v ((stPut sec nano).take j))
  case atStart => exact ⟨0, by omega, rfl, rfl, StR.mk' (by simpa using Own.nil w1 _) HB1.out⟩
  case round =>
    obtain ⟨j, hj, rfl, rfl, hS⟩ := hrel
    obtain ⟨VA, vc, rfl, _⟩ := hS.o.bs
    have hlk : ((stPut sec nano).take j).length = j := by rw [List.length_take, HLN.out]; omega
    have HS := Lib.hid hS
    clear hS
    rw [hlk] at HS
    rw [hlk]
    have c0 := HS.out.c0
    have c1 := HS.out.c1
    have HK := Lib.hid hlk
    clear hlk
    by_cases hlt : j < 8
    · have hlt2 : (j : Int) < 8 := by omega
      have HX := Lib.hid (take_snoc8 (l := stPut sec nano) (i := j) (by rw [HLN.out]; omega))
      have HG := Lib.hid (stPut_a sec nano j hlt)
      have hw := kind8_a sec j hlt
      have hs1 : 0 ≤ 56 - 8 * (j : Int) := by omega
      have hs2 : 56 - 8 * (j : Int) ≤ 56 := by omega
      generalize UInt8.ofNat (sec / 2 ^ (56 - 8 * j)) = y at *
      go_wp2_with (at_builtin; refine push_at (B := w.heap.size + 1) rfl (.tmp 15) (.tmp 24) rfl (.slice VA j vc) ((stPut sec nano).take j) y rfl rfl HS.out.o HS.out.below (StR.size HS.out) (by rw [HK.out]; omega) ?_; intro A1 c1 w5 hO1 hB1; rw [HK.out] at hO1 ⊢; have HO1 := Lib.hid hO1; have HB5 := Lib.hid hB1; clear hO1 hB1)
      go_roundg (8 - (j + 1))
      case measure => omega
      case rel =>
        refine ⟨j + 1, by omega, rfl, by go_num, StR.mk' ?_ HB5.out⟩
        rw [HX.out, HG.out]; exact HO1.out
    · obtain rfl : j = 8 := by omega
      clear hlt
      go_wp2_with fail
      go_loopg [4, 6] 4 (fun gk v i wr => ∃ j : Nat, j ≤ 4 ∧ gk = 4 - j ∧ i = .int .i64 (j : Int) ∧ StR w wr sec nano v ((stPut sec nano).take (8 + j)))
      case atStart => exact ⟨0, by omega, rfl, rfl, HS.out⟩
      case round =>
        obtain ⟨j, hj, rfl, rfl, hS⟩ := hrel
        obtain ⟨VA, vc, rfl, _⟩ := hS.o.bs
        have hlk : ((stPut sec nano).take (8 + j)).length = 8 + j := by rw [List.length_take, HLN.out]; omega
        have HS := Lib.hid hS
        clear hS
        rw [hlk] at HS
        rw [hlk]
        have c0 := HS.out.c0
        have c1 := HS.out.c1
        have HK := Lib.hid hlk
        clear hlk
        by_cases hlt : j < 4
        · have hlt2 : (j : Int) < 4 := by omega
          have HX := Lib.hid (take_snoc8 (l := stPut sec nano) (i := 8 + j) (by rw [HLN.out]; omega))
          have HG := Lib.hid (stPut_b sec nano j hlt)
          have hw := kind8_b nano j hlt
          have hs1 : 0 ≤ 24 - 8 * (j : Int) := by omega
          have hs2 : 24 - 8 * (j : Int) ≤ 24 := by omega
          generalize UInt8.ofNat (nano / 2 ^ (24 - 8 * j)) = y at *
          go_wp2_with (at_builtin; refine push_at (B := w.heap.size + 1) rfl (.tmp 30) (.tmp 39) rfl (.slice VA (8 + j) vc) ((stPut sec nano).take (8 + j)) y rfl rfl HS.out.o HS.out.below (StR.size HS.out) (by rw [HK.out]; omega) ?_; intro A1 c1 w5 hO1 hB1; rw [HK.out] at hO1 ⊢; have HO1 := Lib.hid hO1; have HB5 := Lib.hid hB1; clear hO1 hB1)
          go_roundg (4 - (j + 1))
          case measure => omega
          case rel =>
            refine ⟨j + 1, by omega, rfl, by go_num, StR.mk' ?_ HB5.out⟩
            rw [show 8 + (j + 1) = 8 + j + 1 by omega, HX.out, HG.out]; exact HO1.out
        · obtain rfl : j = 4 := by omega
          go_wp2_with fail
          go_ret
          have h := HS.out
          refine ⟨_, rfl, ?_, StR.below0 h⟩
          have ho := h.o.mono (b' := w.heap.size) (by omega)
          rwa [List.take_of_length_le (by rw [HLN.out]; omega)] at ho
end Go.Proofs.Ytgbjhlkjceonpaa.Help
