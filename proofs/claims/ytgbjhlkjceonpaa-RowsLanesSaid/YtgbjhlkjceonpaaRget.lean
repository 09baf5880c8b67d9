/- The walks of bits.Get at each kind of number. -/
import Derived.Test.YtgbjhlkjceonpaaRdr
namespace Go.Proofs.Ytgbjhlkjceonpaa.Help
open Go.RowKit Go.Proofs.Ytgbjhlkjceonpaa.K
set_option linter.unusedVariables false
theorem take_int (g rb p n : Nat) (x : Int) (L : List UInt8) (err : Int) (w : World) (h : Rdr w g rb L p err) (hx : x = n) (hn : n ≤ 140737488355328) :
    Calls Try.prog 79 #[.pointer (some ⟨g, 0, none⟩), .int .i64 x] w (Took w g rb L (takes L p n err)) := by
  subst hx; exact take g rb p n L err w h hn
theorem takes_len (L : List UInt8) (p n : Nat) (err : Int) : (takes L p n err).1.length ≤ n ∧ ((takes L p n err).2.1 = false → (takes L p n err).1 = []) := by
  unfold takes
  split
  · exact ⟨by simp, fun _ => rfl⟩
  · split
    · exact ⟨by simp, fun _ => rfl⟩
    · exact ⟨by unfold cutN; rw [List.length_take]; omega, fun h => by cases h⟩
def GetR (w : World) (g rb : Nat) (L : List UInt8) (k : IntKind) (t : List UInt8 × Bool × Nat × Int) (e : Ending) (w' : World) : Prop :=
  e = .returned (.int k (val t.1 : Int)) ∧ Rdr w' g rb L t.2.2.1 t.2.2.2 ∧ Only w w' (fun k => k = g)
theorem val_pow {l : List UInt8} {k : Nat} (h : l.length ≤ k) : val l < 256 ^ k := Nat.lt_of_lt_of_le (val_lt l) (Nat.pow_le_pow_right (by omega) h)

set_option maxRecDepth 100000 in
theorem get_uint8 (g rb p : Nat) (L : List UInt8) (err : Int) (w : World) (h : Rdr w g rb L p err) :
    Calls Try.prog 47 #[.pointer (some ⟨g, 0, none⟩)] w (GetR w g rb L .u8 (takes L p 1 err)) := by
  have HR := Lib.hid h
  clear h
  have htl := takes_len L p 1 err
  have T := Lib.hid (fun x (hx : x = ((1 : Nat) : Int)) => take_int g rb p 1 x L err w HR.out hx (by omega))
  generalize takes L p 1 err = t at *
  obtain ⟨l, ok, q, er⟩ := t
  obtain ⟨hl1, hl2⟩ := htl
  simp only at hl1 hl2
  have HL2 := Lib.hid hl2
  clear hl2
  have hv := val_pow hl1
  go_enter Try.func47, Try.ntmps47
  go_wp2_with (go_at_call 80; refine (Bits.width_uint8 _).mono ?_; rintro e w' ⟨rfl, rfl⟩)
  refine (T.out _ (by rfl)).mono ?_
  rintro e w1 ⟨A, c, rfl, hb, hr, ho⟩
  have H := Lib.hid (And.intro hb (And.intro hr ho))
  clear hb hr ho
  cases ok
  · obtain rfl := HL2.out rfl
    go_wp2_with fail
    go_ret
    exact ⟨rfl, H.out.2.1, H.out.2.2⟩
  · clear HL2
    go_wp2_with fail
    go_loopg [5, 18] l.length (fun gk s i wr => ∃ k : Nat, k ≤ l.length ∧ gk = l.length - k ∧ i = .int .i64 (k : Int) ∧ wr = w1 ∧ s = .int .u64 (val (l.take k) : Int))
    case atStart => exact ⟨0, by omega, rfl, rfl, rfl, by simp [val]⟩
    case round =>
      obtain ⟨k, hk, rfl, rfl, rfl, rfl⟩ := hrel
      by_cases hlt : k < l.length
      · have hlt2 : (k : Int) < l.length := by omega
        obtain ⟨ad, e1, hadl, c1⟩ := H.out.1.at_ k hlt
        subst e1
        have hs := take_snoc8 hlt
        have hx := val_small (l := l.take k) (k := k) (by rw [List.length_take]; omega) (by omega)
        have hor := or_byte (val (l.take k)) (l.getD k 0) hx
        have HN : Hid (val (l.take (k + 1)) = val (l.take k) * 256 + (l.getD k 0).toNat) := by rw [Hid, hs, val_snoc]
        clear hs hadl
        have hb := (l.getD k 0).toNat_lt
        generalize l.getD k 0 = b at *
        generalize val (l.take k) = x at *
        go_wp2_with fail
        go_roundg (l.length - (k + 1))
        case measure => omega
        case rel =>
          refine ⟨k + 1, by omega, rfl, by go_num, rfl, ?_⟩
          rw [HN.out]; push_cast; rfl
      · obtain rfl : k = l.length := by omega
        have e2 : l.take l.length = l := List.take_of_length_le (Nat.le_refl _)
        rw [e2]
        have hw : IntKind.u8.wrap (val l : Int) = (val l : Int) := by
          rw [IntKind.wrap_u8]
          exact Int.emod_eq_of_lt (by omega) (by omega)
        have hv2 : val l < 256 := hv
        clear e2 hlt hv
        generalize hx : val l = x at *
        have HX := Lib.hid hx
        clear hx
        go_wp2_with fail
        go_ret
        exact ⟨by rw [HX.out]; rfl, H.out.2.1, H.out.2.2⟩

set_option maxRecDepth 100000 in
theorem get_uint32 (g rb p : Nat) (L : List UInt8) (err : Int) (w : World) (h : Rdr w g rb L p err) :
    Calls Try.prog 48 #[.pointer (some ⟨g, 0, none⟩)] w (GetR w g rb L .u32 (takes L p 4 err)) := by
  have HR := Lib.hid h
  clear h
  have htl := takes_len L p 4 err
  have T := Lib.hid (fun x (hx : x = ((4 : Nat) : Int)) => take_int g rb p 4 x L err w HR.out hx (by omega))
  generalize takes L p 4 err = t at *
  obtain ⟨l, ok, q, er⟩ := t
  obtain ⟨hl1, hl2⟩ := htl
  simp only at hl1 hl2
  have HL2 := Lib.hid hl2
  clear hl2
  have hv := val_pow hl1
  go_enter Try.func48, Try.ntmps48
  go_wp2_with (go_at_call 75; refine (Bits.width_uint32 _).mono ?_; rintro e w' ⟨rfl, rfl⟩)
  refine (T.out _ (by rfl)).mono ?_
  rintro e w1 ⟨A, c, rfl, hb, hr, ho⟩
  have H := Lib.hid (And.intro hb (And.intro hr ho))
  clear hb hr ho
  cases ok
  · obtain rfl := HL2.out rfl
    go_wp2_with fail
    go_ret
    exact ⟨rfl, H.out.2.1, H.out.2.2⟩
  · clear HL2
    go_wp2_with fail
    go_loopg [5, 18] l.length (fun gk s i wr => ∃ k : Nat, k ≤ l.length ∧ gk = l.length - k ∧ i = .int .i64 (k : Int) ∧ wr = w1 ∧ s = .int .u64 (val (l.take k) : Int))
    case atStart => exact ⟨0, by omega, rfl, rfl, rfl, by simp [val]⟩
    case round =>
      obtain ⟨k, hk, rfl, rfl, rfl, rfl⟩ := hrel
      by_cases hlt : k < l.length
      · have hlt2 : (k : Int) < l.length := by omega
        obtain ⟨ad, e1, hadl, c1⟩ := H.out.1.at_ k hlt
        subst e1
        have hs := take_snoc8 hlt
        have hx := val_small (l := l.take k) (k := k) (by rw [List.length_take]; omega) (by omega)
        have hor := or_byte (val (l.take k)) (l.getD k 0) hx
        have HN : Hid (val (l.take (k + 1)) = val (l.take k) * 256 + (l.getD k 0).toNat) := by rw [Hid, hs, val_snoc]
        clear hs hadl
        have hb := (l.getD k 0).toNat_lt
        generalize l.getD k 0 = b at *
        generalize val (l.take k) = x at *
        go_wp2_with fail
        go_roundg (l.length - (k + 1))
        case measure => omega
        case rel =>
          refine ⟨k + 1, by omega, rfl, by go_num, rfl, ?_⟩
          rw [HN.out]; push_cast; rfl
      · obtain rfl : k = l.length := by omega
        have e2 : l.take l.length = l := List.take_of_length_le (Nat.le_refl _)
        rw [e2]
        have hw : IntKind.u32.wrap (val l : Int) = (val l : Int) := by
          rw [IntKind.wrap_u32]
          exact Int.emod_eq_of_lt (by omega) (by omega)
        have hv2 : val l < 4294967296 := hv
        clear e2 hlt hv
        generalize hx : val l = x at *
        have HX := Lib.hid hx
        clear hx
        go_wp2_with fail
        go_ret
        exact ⟨by rw [HX.out]; rfl, H.out.2.1, H.out.2.2⟩

set_option maxRecDepth 100000 in
theorem get_uint64 (g rb p : Nat) (L : List UInt8) (err : Int) (w : World) (h : Rdr w g rb L p err) :
    Calls Try.prog 49 #[.pointer (some ⟨g, 0, none⟩)] w (GetR w g rb L .u64 (takes L p 8 err)) := by
  have HR := Lib.hid h
  clear h
  have htl := takes_len L p 8 err
  have T := Lib.hid (fun x (hx : x = ((8 : Nat) : Int)) => take_int g rb p 8 x L err w HR.out hx (by omega))
  generalize takes L p 8 err = t at *
  obtain ⟨l, ok, q, er⟩ := t
  obtain ⟨hl1, hl2⟩ := htl
  simp only at hl1 hl2
  have HL2 := Lib.hid hl2
  clear hl2
  have hv := val_pow hl1
  go_enter Try.func49, Try.ntmps49
  go_wp2_with (go_at_call 76; refine (Bits.width_uint64 _).mono ?_; rintro e w' ⟨rfl, rfl⟩)
  refine (T.out _ (by rfl)).mono ?_
  rintro e w1 ⟨A, c, rfl, hb, hr, ho⟩
  have H := Lib.hid (And.intro hb (And.intro hr ho))
  clear hb hr ho
  cases ok
  · obtain rfl := HL2.out rfl
    go_wp2_with fail
    go_ret
    exact ⟨rfl, H.out.2.1, H.out.2.2⟩
  · clear HL2
    go_wp2_with fail
    go_loopg [5, 18] l.length (fun gk s i wr => ∃ k : Nat, k ≤ l.length ∧ gk = l.length - k ∧ i = .int .i64 (k : Int) ∧ wr = w1 ∧ s = .int .u64 (val (l.take k) : Int))
    case atStart => exact ⟨0, by omega, rfl, rfl, rfl, by simp [val]⟩
    case round =>
      obtain ⟨k, hk, rfl, rfl, rfl, rfl⟩ := hrel
      by_cases hlt : k < l.length
      · have hlt2 : (k : Int) < l.length := by omega
        obtain ⟨ad, e1, hadl, c1⟩ := H.out.1.at_ k hlt
        subst e1
        have hs := take_snoc8 hlt
        have hx := val_small (l := l.take k) (k := k) (by rw [List.length_take]; omega) (by omega)
        have hor := or_byte (val (l.take k)) (l.getD k 0) hx
        have HN : Hid (val (l.take (k + 1)) = val (l.take k) * 256 + (l.getD k 0).toNat) := by rw [Hid, hs, val_snoc]
        clear hs hadl
        have hb := (l.getD k 0).toNat_lt
        generalize l.getD k 0 = b at *
        generalize val (l.take k) = x at *
        go_wp2_with fail
        go_roundg (l.length - (k + 1))
        case measure => omega
        case rel =>
          refine ⟨k + 1, by omega, rfl, by go_num, rfl, ?_⟩
          rw [HN.out]; push_cast; rfl
      · obtain rfl : k = l.length := by omega
        have e2 : l.take l.length = l := List.take_of_length_le (Nat.le_refl _)
        rw [e2]
        have hw : IntKind.u64.wrap (val l : Int) = (val l : Int) := by
          rw [IntKind.wrap_u64]
          exact Int.emod_eq_of_lt (by omega) (by omega)
        have hv2 : val l < 18446744073709551616 := hv
        clear e2 hlt hv
        generalize hx : val l = x at *
        have HX := Lib.hid hx
        clear hx
        go_wp2_with fail
        go_ret
        exact ⟨by rw [HX.out]; rfl, H.out.2.1, H.out.2.2⟩
end Go.Proofs.Ytgbjhlkjceonpaa.Help
