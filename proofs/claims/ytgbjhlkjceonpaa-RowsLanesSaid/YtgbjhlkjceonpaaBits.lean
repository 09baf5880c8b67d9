/- The walks of package bits: width and Put at each kind of number. -/
import Derived.Test.YtgbjhlkjceonpaaBytes
namespace Go.Proofs.Ytgbjhlkjceonpaa.Bits
open Go.RowKit Go.Proofs.Ytgbjhlkjceonpaa.K
set_option linter.unusedVariables false


set_option maxRecDepth 100000 in
theorem width_uint8 (w : World) : Calls Try.prog 80 #[] w fun e w' => e = .returned (.int .i64 1) ∧ w = w' := by
  go_enter Try.func80, Try.ntmps80
  go_wp2_with fail
  go_loopg [1, 2] 1 (fun gk n x wr => wr = w ∧ ((gk = 1 ∧ n = .int .i64 0 ∧ x = .int .u64 255) ∨ (gk = 0 ∧ n = .int .i64 1 ∧ x = .int .u64 0)))
  case atStart => exact ⟨rfl, .inl ⟨rfl, rfl, rfl⟩⟩
  case round =>
    obtain ⟨rfl, h⟩ := hrel
    rcases h with ⟨rfl, rfl, rfl⟩ | ⟨rfl, rfl, rfl⟩
    · go_wp2_with fail
      go_roundg 0
      case measure => omega
      case rel => exact ⟨rfl, .inr (⟨rfl, rfl, rfl⟩)⟩
    · go_wp2_with fail
      go_ret
      exact ⟨rfl, rfl⟩

set_option maxRecDepth 100000 in
theorem put_uint8 (A : Option Addr) (c : Nat) (l : List UInt8) (x : Nat) (w : World) (hs : Bs w A c l) (hl : l.length ≤ 140737488351232) (hx : x < 256) :
    Calls Try.prog 57 #[.slice A l.length c, .int .u8 (x : Int)] w (Ret w (l ++ be 1 x)) := by
  have hmk := fun W => make_u8 (l.length + 1) (by omega) W
  have hL := blk_made w (l.length + 1)
  obtain ⟨w2, hcopy, hb2, ho2⟩ := copy_u8 (n := l.length + 1) (dc := l.length + 1) (o := 0) hL (hs.below ((Below.refl _ _).alloc (Nat.le_refl _) _)) (by simp) 3
  have HB2 : Hid (Blk w2 w.heap.size (l ++ List.replicate 1 0) ∧ Below w.heap.size w w2) := by
    have hm : Nat.min l.length (l.length + 1) = l.length := Nat.min_eq_left (by omega)
    rw [hm] at hb2
    refine ⟨?_, below_only ((Below.refl _ _).alloc (Nat.le_refl _) _) ho2 (fun i hi => by rw [hi]; exact Nat.le_refl _)⟩
    simpa [List.take_of_length_le] using hb2
  have hln : l.length ≤ 9223372036854775000 := by omega
  have hmk2 : ∀ W : World, (Instr.makeSlice 22 (.int .i64 ((l.length : Int) + 1)) (.int .i64 ((l.length : Int) + 1))).run Try.prog W = .ok (.slice (some ⟨W.heap.size, 0, none⟩) (l.length + 1) (l.length + 1)) (W.alloc (.cells (u8s (zs (l.length + 1))).toArray 5)) := fun W => by
    have h := hmk W
    push_cast at h
    exact h
  clear hmk hL hb2 ho2
  have HS := Lib.hid hs
  clear hs
  go_enter Try.func57, Try.ntmps57
  go_wp2_with (go_at_call 80; refine (width_uint8 _).mono ?_; rintro e w' ⟨rfl, rfl⟩)
  go_loopg [18] 1 (fun gk i wr => ∃ j : Nat, j ≤ 1 ∧ gk = 1 - j ∧ i = .int .i64 (j : Int) ∧ Blk wr w.heap.size (l ++ List.replicate (1 - j) 0 ++ be j x) ∧ Below w.heap.size w wr)
  case atStart => exact ⟨0, by omega, rfl, rfl, by simpa [be] using HB2.out.1, HB2.out.2⟩
  case round =>
    obtain ⟨j, hj, rfl, rfl, hb, hbel⟩ := hrel
    have HB := Lib.hid hb
    have HBL := Lib.hid hbel
    have HLN := Lib.hid (show (l ++ List.replicate (1 - j) 0 ++ be j x).length = l.length + 1 by simp [be_len]; omega)
    clear hb hbel
    by_cases hlt : j < 1
    · have hlt2 : (j : Int) < 1 := by omega
      have hc1 := HB.out.cell (l.length - j) (by rw [HLN.out]; omega)
      have hf1 := HB.out.free (l.length - j)
      have hw : IntKind.u8.wrap ((x : Int) / 2 ^ (8 * j)) = ((UInt8.ofNat (x / 2 ^ (8 * j))).toNat : Int) := kind8 x j
      have HST := Lib.hid (be_step l 1 j x hlt)
      rw [show l.length + 1 - 1 - j = l.length - j by omega] at HST
      have HSET := Lib.hid (HB.out.set (l.length - j) (UInt8.ofNat (x / 2 ^ (8 * j))))
      generalize UInt8.ofNat (x / 2 ^ (8 * j)) = y at hw HST HSET
      generalize (l ++ List.replicate (1 - j) 0 ++ be j x).getD (l.length - j) 0 = z at hc1
      go_wp2_with fail
      go_roundg (1 - (j + 1))
      case measure => omega
      case rel =>
        refine ⟨j + 1, by omega, rfl, by go_num, ?_, below_only HBL.out ((Only.refl wr (fun k => k = w.heap.size)).setCell (p := ⟨w.heap.size, _, none⟩) (.inl rfl) _) (fun i hi => by rw [hi]; exact Nat.le_refl _)⟩
        rw [← HST.out]
        exact HSET.out
    · obtain rfl : j = 1 := by omega
      go_wp2_with fail
      go_ret
      have h := HB.out
      simp only [Nat.sub_self, List.replicate_zero, List.append_nil] at h
      have h2 := h.own (base := w.heap.size) (Nat.le_refl _) (by simp [be_len]; omega)
      have hl2 : (l ++ be 1 x).length = l.length + 1 := by simp [be_len]
      rw [hl2] at h2
      exact ⟨_, rfl, h2, HBL.out⟩

set_option maxRecDepth 100000 in
theorem width_uint32 (w : World) : Calls Try.prog 75 #[] w fun e w' => e = .returned (.int .i64 4) ∧ w = w' := by
  go_enter Try.func75, Try.ntmps75
  go_wp2_with fail
  go_loopg [1, 2] 4 (fun gk n x wr => wr = w ∧ ((gk = 4 ∧ n = .int .i64 0 ∧ x = .int .u64 4294967295) ∨ (gk = 3 ∧ n = .int .i64 1 ∧ x = .int .u64 16777215) ∨ (gk = 2 ∧ n = .int .i64 2 ∧ x = .int .u64 65535) ∨ (gk = 1 ∧ n = .int .i64 3 ∧ x = .int .u64 255) ∨ (gk = 0 ∧ n = .int .i64 4 ∧ x = .int .u64 0)))
  case atStart => exact ⟨rfl, .inl ⟨rfl, rfl, rfl⟩⟩
  case round =>
    obtain ⟨rfl, h⟩ := hrel
    rcases h with ⟨rfl, rfl, rfl⟩ | ⟨rfl, rfl, rfl⟩ | ⟨rfl, rfl, rfl⟩ | ⟨rfl, rfl, rfl⟩ | ⟨rfl, rfl, rfl⟩
    · go_wp2_with fail
      go_roundg 3
      case measure => omega
      case rel => exact ⟨rfl, .inr (.inl ⟨rfl, rfl, rfl⟩)⟩
    · go_wp2_with fail
      go_roundg 2
      case measure => omega
      case rel => exact ⟨rfl, .inr (.inr (.inl ⟨rfl, rfl, rfl⟩))⟩
    · go_wp2_with fail
      go_roundg 1
      case measure => omega
      case rel => exact ⟨rfl, .inr (.inr (.inr (.inl ⟨rfl, rfl, rfl⟩)))⟩
    · go_wp2_with fail
      go_roundg 0
      case measure => omega
      case rel => exact ⟨rfl, .inr (.inr (.inr (.inr (⟨rfl, rfl, rfl⟩))))⟩
    · go_wp2_with fail
      go_ret
      exact ⟨rfl, rfl⟩

set_option maxRecDepth 100000 in
theorem put_uint32 (A : Option Addr) (c : Nat) (l : List UInt8) (x : Nat) (w : World) (hs : Bs w A c l) (hl : l.length ≤ 140737488351232) (hx : x < 4294967296) :
    Calls Try.prog 35 #[.slice A l.length c, .int .u32 (x : Int)] w (Ret w (l ++ be 4 x)) := by
  have hmk := fun W => make_u8 (l.length + 4) (by omega) W
  have hL := blk_made w (l.length + 4)
  obtain ⟨w2, hcopy, hb2, ho2⟩ := copy_u8 (n := l.length + 4) (dc := l.length + 4) (o := 0) hL (hs.below ((Below.refl _ _).alloc (Nat.le_refl _) _)) (by simp) 3
  have HB2 : Hid (Blk w2 w.heap.size (l ++ List.replicate 4 0) ∧ Below w.heap.size w w2) := by
    have hm : Nat.min l.length (l.length + 4) = l.length := Nat.min_eq_left (by omega)
    rw [hm] at hb2
    refine ⟨?_, below_only ((Below.refl _ _).alloc (Nat.le_refl _) _) ho2 (fun i hi => by rw [hi]; exact Nat.le_refl _)⟩
    simpa [List.take_of_length_le] using hb2
  have hln : l.length ≤ 9223372036854775000 := by omega
  have hmk2 : ∀ W : World, (Instr.makeSlice 22 (.int .i64 ((l.length : Int) + 4)) (.int .i64 ((l.length : Int) + 4))).run Try.prog W = .ok (.slice (some ⟨W.heap.size, 0, none⟩) (l.length + 4) (l.length + 4)) (W.alloc (.cells (u8s (zs (l.length + 4))).toArray 5)) := fun W => by
    have h := hmk W
    push_cast at h
    exact h
  clear hmk hL hb2 ho2
  have HS := Lib.hid hs
  clear hs
  go_enter Try.func35, Try.ntmps35
  go_wp2_with (go_at_call 75; refine (width_uint32 _).mono ?_; rintro e w' ⟨rfl, rfl⟩)
  go_loopg [18] 4 (fun gk i wr => ∃ j : Nat, j ≤ 4 ∧ gk = 4 - j ∧ i = .int .i64 (j : Int) ∧ Blk wr w.heap.size (l ++ List.replicate (4 - j) 0 ++ be j x) ∧ Below w.heap.size w wr)
  case atStart => exact ⟨0, by omega, rfl, rfl, by simpa [be] using HB2.out.1, HB2.out.2⟩
  case round =>
    obtain ⟨j, hj, rfl, rfl, hb, hbel⟩ := hrel
    have HB := Lib.hid hb
    have HBL := Lib.hid hbel
    have HLN := Lib.hid (show (l ++ List.replicate (4 - j) 0 ++ be j x).length = l.length + 4 by simp [be_len]; omega)
    clear hb hbel
    by_cases hlt : j < 4
    · have hlt2 : (j : Int) < 4 := by omega
      have hc1 := HB.out.cell (l.length + 3 - j) (by rw [HLN.out]; omega)
      have hf1 := HB.out.free (l.length + 3 - j)
      have hw : IntKind.u8.wrap ((x : Int) / 2 ^ (8 * j)) = ((UInt8.ofNat (x / 2 ^ (8 * j))).toNat : Int) := kind8 x j
      have HST := Lib.hid (be_step l 4 j x hlt)
      rw [show l.length + 4 - 1 - j = l.length + 3 - j by omega] at HST
      have HSET := Lib.hid (HB.out.set (l.length + 3 - j) (UInt8.ofNat (x / 2 ^ (8 * j))))
      generalize UInt8.ofNat (x / 2 ^ (8 * j)) = y at hw HST HSET
      generalize (l ++ List.replicate (4 - j) 0 ++ be j x).getD (l.length + 3 - j) 0 = z at hc1
      go_wp2_with fail
      go_roundg (4 - (j + 1))
      case measure => omega
      case rel =>
        refine ⟨j + 1, by omega, rfl, by go_num, ?_, below_only HBL.out ((Only.refl wr (fun k => k = w.heap.size)).setCell (p := ⟨w.heap.size, _, none⟩) (.inl rfl) _) (fun i hi => by rw [hi]; exact Nat.le_refl _)⟩
        rw [← HST.out]
        exact HSET.out
    · obtain rfl : j = 4 := by omega
      go_wp2_with fail
      go_ret
      have h := HB.out
      simp only [Nat.sub_self, List.replicate_zero, List.append_nil] at h
      have h2 := h.own (base := w.heap.size) (Nat.le_refl _) (by simp [be_len]; omega)
      have hl2 : (l ++ be 4 x).length = l.length + 4 := by simp [be_len]
      rw [hl2] at h2
      exact ⟨_, rfl, h2, HBL.out⟩

set_option maxRecDepth 100000 in
theorem width_uint64 (w : World) : Calls Try.prog 76 #[] w fun e w' => e = .returned (.int .i64 8) ∧ w = w' := by
  go_enter Try.func76, Try.ntmps76
  go_wp2_with fail
  go_loopg [1, 2] 8 (fun gk n x wr => wr = w ∧ ((gk = 8 ∧ n = .int .i64 0 ∧ x = .int .u64 18446744073709551615) ∨ (gk = 7 ∧ n = .int .i64 1 ∧ x = .int .u64 72057594037927935) ∨ (gk = 6 ∧ n = .int .i64 2 ∧ x = .int .u64 281474976710655) ∨ (gk = 5 ∧ n = .int .i64 3 ∧ x = .int .u64 1099511627775) ∨ (gk = 4 ∧ n = .int .i64 4 ∧ x = .int .u64 4294967295) ∨ (gk = 3 ∧ n = .int .i64 5 ∧ x = .int .u64 16777215) ∨ (gk = 2 ∧ n = .int .i64 6 ∧ x = .int .u64 65535) ∨ (gk = 1 ∧ n = .int .i64 7 ∧ x = .int .u64 255) ∨ (gk = 0 ∧ n = .int .i64 8 ∧ x = .int .u64 0)))
  case atStart => exact ⟨rfl, .inl ⟨rfl, rfl, rfl⟩⟩
  case round =>
    obtain ⟨rfl, h⟩ := hrel
    rcases h with ⟨rfl, rfl, rfl⟩ | ⟨rfl, rfl, rfl⟩ | ⟨rfl, rfl, rfl⟩ | ⟨rfl, rfl, rfl⟩ | ⟨rfl, rfl, rfl⟩ | ⟨rfl, rfl, rfl⟩ | ⟨rfl, rfl, rfl⟩ | ⟨rfl, rfl, rfl⟩ | ⟨rfl, rfl, rfl⟩
    · go_wp2_with fail
      go_roundg 7
      case measure => omega
      case rel => exact ⟨rfl, .inr (.inl ⟨rfl, rfl, rfl⟩)⟩
    · go_wp2_with fail
      go_roundg 6
      case measure => omega
      case rel => exact ⟨rfl, .inr (.inr (.inl ⟨rfl, rfl, rfl⟩))⟩
    · go_wp2_with fail
      go_roundg 5
      case measure => omega
      case rel => exact ⟨rfl, .inr (.inr (.inr (.inl ⟨rfl, rfl, rfl⟩)))⟩
    · go_wp2_with fail
      go_roundg 4
      case measure => omega
      case rel => exact ⟨rfl, .inr (.inr (.inr (.inr (.inl ⟨rfl, rfl, rfl⟩))))⟩
    · go_wp2_with fail
      go_roundg 3
      case measure => omega
      case rel => exact ⟨rfl, .inr (.inr (.inr (.inr (.inr (.inl ⟨rfl, rfl, rfl⟩)))))⟩
    · go_wp2_with fail
      go_roundg 2
      case measure => omega
      case rel => exact ⟨rfl, .inr (.inr (.inr (.inr (.inr (.inr (.inl ⟨rfl, rfl, rfl⟩))))))⟩
    · go_wp2_with fail
      go_roundg 1
      case measure => omega
      case rel => exact ⟨rfl, .inr (.inr (.inr (.inr (.inr (.inr (.inr (.inl ⟨rfl, rfl, rfl⟩)))))))⟩
    · go_wp2_with fail
      go_roundg 0
      case measure => omega
      case rel => exact ⟨rfl, .inr (.inr (.inr (.inr (.inr (.inr (.inr (.inr (⟨rfl, rfl, rfl⟩))))))))⟩
    · go_wp2_with fail
      go_ret
      exact ⟨rfl, rfl⟩

set_option maxRecDepth 100000 in
theorem put_uint64 (A : Option Addr) (c : Nat) (l : List UInt8) (x : Nat) (w : World) (hs : Bs w A c l) (hl : l.length ≤ 140737488351232) (hx : x < 18446744073709551616) :
    Calls Try.prog 36 #[.slice A l.length c, .int .u64 (x : Int)] w (Ret w (l ++ be 8 x)) := by
  have hmk := fun W => make_u8 (l.length + 8) (by omega) W
  have hL := blk_made w (l.length + 8)
  obtain ⟨w2, hcopy, hb2, ho2⟩ := copy_u8 (n := l.length + 8) (dc := l.length + 8) (o := 0) hL (hs.below ((Below.refl _ _).alloc (Nat.le_refl _) _)) (by simp) 3
  have HB2 : Hid (Blk w2 w.heap.size (l ++ List.replicate 8 0) ∧ Below w.heap.size w w2) := by
    have hm : Nat.min l.length (l.length + 8) = l.length := Nat.min_eq_left (by omega)
    rw [hm] at hb2
    refine ⟨?_, below_only ((Below.refl _ _).alloc (Nat.le_refl _) _) ho2 (fun i hi => by rw [hi]; exact Nat.le_refl _)⟩
    simpa [List.take_of_length_le] using hb2
  have hln : l.length ≤ 9223372036854775000 := by omega
  have hmk2 : ∀ W : World, (Instr.makeSlice 22 (.int .i64 ((l.length : Int) + 8)) (.int .i64 ((l.length : Int) + 8))).run Try.prog W = .ok (.slice (some ⟨W.heap.size, 0, none⟩) (l.length + 8) (l.length + 8)) (W.alloc (.cells (u8s (zs (l.length + 8))).toArray 5)) := fun W => by
    have h := hmk W
    push_cast at h
    exact h
  clear hmk hL hb2 ho2
  have HS := Lib.hid hs
  clear hs
  go_enter Try.func36, Try.ntmps36
  go_wp2_with (go_at_call 76; refine (width_uint64 _).mono ?_; rintro e w' ⟨rfl, rfl⟩)
  go_loopg [18] 8 (fun gk i wr => ∃ j : Nat, j ≤ 8 ∧ gk = 8 - j ∧ i = .int .i64 (j : Int) ∧ Blk wr w.heap.size (l ++ List.replicate (8 - j) 0 ++ be j x) ∧ Below w.heap.size w wr)
  case atStart => exact ⟨0, by omega, rfl, rfl, by simpa [be] using HB2.out.1, HB2.out.2⟩
  case round =>
    obtain ⟨j, hj, rfl, rfl, hb, hbel⟩ := hrel
    have HB := Lib.hid hb
    have HBL := Lib.hid hbel
    have HLN := Lib.hid (show (l ++ List.replicate (8 - j) 0 ++ be j x).length = l.length + 8 by simp [be_len]; omega)
    clear hb hbel
    by_cases hlt : j < 8
    · have hlt2 : (j : Int) < 8 := by omega
      have hc1 := HB.out.cell (l.length + 7 - j) (by rw [HLN.out]; omega)
      have hf1 := HB.out.free (l.length + 7 - j)
      have hw : IntKind.u8.wrap ((x : Int) / 2 ^ (8 * j)) = ((UInt8.ofNat (x / 2 ^ (8 * j))).toNat : Int) := kind8 x j
      have HST := Lib.hid (be_step l 8 j x hlt)
      rw [show l.length + 8 - 1 - j = l.length + 7 - j by omega] at HST
      have HSET := Lib.hid (HB.out.set (l.length + 7 - j) (UInt8.ofNat (x / 2 ^ (8 * j))))
      generalize UInt8.ofNat (x / 2 ^ (8 * j)) = y at hw HST HSET
      generalize (l ++ List.replicate (8 - j) 0 ++ be j x).getD (l.length + 7 - j) 0 = z at hc1
      go_wp2_with fail
      go_roundg (8 - (j + 1))
      case measure => omega
      case rel =>
        refine ⟨j + 1, by omega, rfl, by go_num, ?_, below_only HBL.out ((Only.refl wr (fun k => k = w.heap.size)).setCell (p := ⟨w.heap.size, _, none⟩) (.inl rfl) _) (fun i hi => by rw [hi]; exact Nat.le_refl _)⟩
        rw [← HST.out]
        exact HSET.out
    · obtain rfl : j = 8 := by omega
      go_wp2_with fail
      go_ret
      have h := HB.out
      simp only [Nat.sub_self, List.replicate_zero, List.append_nil] at h
      have h2 := h.own (base := w.heap.size) (Nat.le_refl _) (by simp [be_len]; omega)
      have hl2 : (l ++ be 8 x).length = l.length + 8 := by simp [be_len]
      rw [hl2] at h2
      exact ⟨_, rfl, h2, HBL.out⟩
end Go.Proofs.Ytgbjhlkjceonpaa.Bits
