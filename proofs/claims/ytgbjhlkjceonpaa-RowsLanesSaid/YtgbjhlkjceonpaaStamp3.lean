/- The walks of both Gets of stamps. -/
import Derived.Test.YtgbjhlkjceonpaaStamp2
namespace Go.Proofs.Ytgbjhlkjceonpaa.Help
open Go.RowKit Go.Proofs.Ytgbjhlkjceonpaa.K
set_option linter.unusedVariables false

/-- what Get says of bytes: seconds, nanoseconds, the error -/
def stGet (l : List UInt8) : Int × Int × Int :=
  if l.length = 12 then (if 9223372036854775807 < val (l.take 8) ∨ 999999999 < val (l.drop 8) then (0, 0, 60) else (val (l.take 8), val (l.drop 8), 0)) else (0, 0, 60)
def stVal (t : Int × Int × Int) : Value := .tuple #[.agg #[.int .i64 t.1, .int .i64 t.2.1], .int .i64 t.2.2]

set_option maxRecDepth 100000 in
theorem stampGet (A : Option Addr) (c : Nat) (l : List UInt8) (w : World) (ha : Bs w A c l) :
    Calls Try.prog 50 #[.slice A l.length c] w (Pure w (stVal (stGet l))) := by
  have HA := Lib.hid ha
  have hmax := ha.max
  clear ha
  by_cases h12 : l.length = 12
  · have hne : ((l.length : Int) != 12) = false := by rw [bne_eq_false_iff_eq]; omega
    have H12 := Lib.hid h12
    obtain ⟨t, ht⟩ : ∃ t, stGet l = t := ⟨_, rfl⟩
    rw [ht]
    unfold stGet at ht
    rw [if_pos h12] at ht
    have HT := Lib.hid ht
    clear ht
    have hl1 : 12 ≤ l.length := by omega
    have hl2 : l.length ≤ 12 := by omega
    clear h12
    go_enter Try.func50, Try.ntmps50
    go_wp2_with fail
    go_loopg [4, 5, 14] 12 (fun gk s n i wr => ∃ k : Nat, k ≤ 12 ∧ gk = 12 - k ∧ i = .int .i64 (k : Int) ∧ wr = w.alloc (.cells #[.int .i64 0, .int .i64 0] 25) ∧ s = .int .u64 (val (l.take (min k 8)) : Int) ∧ n = .int .u64 (val ((l.drop 8).take (k - 8)) : Int))
    case atStart => exact ⟨0, by omega, rfl, rfl, rfl, rfl, rfl⟩
    case round =>
      obtain ⟨k, hk, rfl, rfl, rfl, rfl, rfl⟩ := hrel
      by_cases hlt : k < 12
      · have hlt2 : (k : Int) < l.length := by omega
        obtain ⟨ad, e1, hadl, c1⟩ := HA.out.at_ k (by omega)
        subst e1
        have c2 := (((Below.refl w.heap.size w).alloc (Nat.le_refl _) (.cells #[.int .i64 0, .int .i64 0] 25)).cell (p := ad.add k) (by rw [addr_add_block]; exact hadl)).trans c1
        clear c1 hadl
        by_cases h8 : k < 8
        · have h8' : (k : Int) < 8 := by omega
          have hs := take_snoc8 (l := l) (i := k) (by omega)
          have hv := val_small (l := l.take (min k 8)) (k := k) (by rw [List.length_take]; omega) (by omega)
          have hm1 : min k 8 = k := by omega
          have hm2 : min (k + 1) 8 = k + 1 := by omega
          have hor := or_byte (val (l.take (min k 8))) (l.getD k 0) hv
          have HN : Hid (val (l.take (min (k + 1) 8)) = val (l.take (min k 8)) * 256 + (l.getD k 0).toNat) := by rw [Hid, hm1, hm2, hs, val_snoc]
          have HD : Hid ((l.drop 8).take (k + 1 - 8) = (l.drop 8).take (k - 8)) := by rw [Hid, show k + 1 - 8 = 0 by omega, show k - 8 = 0 by omega]
          clear hs hm1 hm2
          have hb := (l.getD k 0).toNat_lt
          generalize l.getD k 0 = b at *
          generalize val (l.take (min k 8)) = x at *
          go_wp2_with fail
          go_roundg (12 - (k + 1))
          case measure => omega
          case rel =>
            refine ⟨k + 1, by omega, rfl, by go_num, rfl, ?_, by rw [HD.out]⟩
            rw [HN.out]; push_cast; rfl
        · have h8' : ¬ (k : Int) < 8 := by omega
          have hs := take_snoc8 (l := l.drop 8) (i := k - 8) (by rw [List.length_drop]; omega)
          have hg : (l.drop 8).getD (k - 8) 0 = l.getD k 0 := by simp [show 8 + (k - 8) = k by omega]
          rw [hg] at hs
          have hv := val_small (l := (l.drop 8).take (k - 8)) (k := k - 8) (by rw [List.length_take]; omega) (by omega)
          have hor := or_byte (val ((l.drop 8).take (k - 8))) (l.getD k 0) hv
          have HN : Hid (val ((l.drop 8).take (k + 1 - 8)) = val ((l.drop 8).take (k - 8)) * 256 + (l.getD k 0).toNat) := by rw [Hid, show k + 1 - 8 = k - 8 + 1 by omega, hs, val_snoc]
          have HD : Hid (l.take (min (k + 1) 8) = l.take (min k 8)) := by rw [Hid, show min (k + 1) 8 = 8 by omega, show min k 8 = 8 by omega]
          clear hs hg
          have hb := (l.getD k 0).toNat_lt
          generalize l.getD k 0 = b at *
          generalize val ((l.drop 8).take (k - 8)) = x at *
          go_wp2_with fail
          go_roundg (12 - (k + 1))
          case measure => omega
          case rel =>
            refine ⟨k + 1, by omega, rfl, by go_num, rfl, by rw [HD.out], ?_⟩
            rw [HN.out]; push_cast; rfl
      · obtain rfl : k = 12 := by omega
        have e1 : l.take (min 12 8) = l.take 8 := rfl
        have e2 : (l.drop 8).take (12 - 8) = l.drop 8 := List.take_of_length_le (by rw [List.length_drop]; omega)
        rw [e1, e2]
        clear e1 e2 hlt
        have hs8 : val (l.take 8) < 18446744073709551616 := Nat.lt_of_lt_of_le (val_lt _) (Nat.le_trans (Nat.pow_le_pow_right (by omega) (show (l.take 8).length ≤ 8 by rw [List.length_take]; omega)) (by decide))
        have hn8 : val (l.drop 8) < 4294967296 := Nat.lt_of_lt_of_le (val_lt _) (Nat.le_trans (Nat.pow_le_pow_right (by omega) (show (l.drop 8).length ≤ 4 by rw [List.length_drop]; omega)) (by decide))
        have hcs : (9223372036854775807 < val (l.take 8) ∧ t = (0, 0, 60)) ∨ (val (l.take 8) ≤ 9223372036854775807 ∧ 999999999 < val (l.drop 8) ∧ t = (0, 0, 60)) ∨ (val (l.take 8) ≤ 9223372036854775807 ∧ ¬ 999999999 < val (l.drop 8) ∧ t = ((val (l.take 8) : Int), (val (l.drop 8) : Int), 0)) := by
          have h := HT.out
          by_cases g1 : 9223372036854775807 < val (l.take 8)
          · exact .inl ⟨g1, by rw [← h, if_pos (.inl g1)]⟩
          by_cases g2 : 999999999 < val (l.drop 8)
          · exact .inr (.inl ⟨by omega, g2, by rw [← h, if_pos (.inr g2)]⟩)
          · exact .inr (.inr ⟨by omega, g2, by rw [← h, if_neg (by omega)]⟩)
        clear HT
        generalize val (l.take 8) = x at *
        generalize val (l.drop 8) = y at *
        rcases hcs with ⟨g1, rfl⟩ | ⟨g1, g2, rfl⟩ | ⟨g1, g2, rfl⟩
        · go_wp2_with fail
          exact bodyPost_ret (v := stVal (0, 0, 60)) (by simp [stVal, results, Try.results50, go_sem]) rfl ⟨rfl, by first | exact (Below.refl _ _).alloc (Nat.le_refl _) _ | exact (((Below.refl _ _).alloc (Nat.le_refl _) _).setCell (by simp) _) | exact ((((Below.refl _ _).alloc (Nat.le_refl _) _).setCell (by simp) _).setCell (by simp) _)⟩
        · go_wp2_with fail
          exact bodyPost_ret (v := stVal (0, 0, 60)) (by simp [stVal, results, Try.results50, go_sem]) rfl ⟨rfl, by first | exact (Below.refl _ _).alloc (Nat.le_refl _) _ | exact (((Below.refl _ _).alloc (Nat.le_refl _) _).setCell (by simp) _) | exact ((((Below.refl _ _).alloc (Nat.le_refl _) _).setCell (by simp) _).setCell (by simp) _)⟩
        · go_wp2_with fail
          exact bodyPost_ret (v := stVal ((x : Int), (y : Int), 0)) (by simp [stVal, results, Try.results50, go_sem]) rfl ⟨rfl, by first | exact (Below.refl _ _).alloc (Nat.le_refl _) _ | exact (((Below.refl _ _).alloc (Nat.le_refl _) _).setCell (by simp) _) | exact ((((Below.refl _ _).alloc (Nat.le_refl _) _).setCell (by simp) _).setCell (by simp) _)⟩
  · have hne : ((l.length : Int) != 12) = true := by rw [bne_iff_ne]; omega
    have ht : stGet l = (0, 0, 60) := by unfold stGet; rw [if_neg h12]
    rw [ht]
    clear ht h12
    go_enter Try.func50, Try.ntmps50
    go_wp2_with fail
    exact bodyPost_ret (v := stVal (0, 0, 60)) (by simp [stVal, results, Try.results50, go_sem]) rfl ⟨rfl, by first | exact (Below.refl _ _).alloc (Nat.le_refl _) _ | exact (((Below.refl _ _).alloc (Nat.le_refl _) _).setCell (by simp) _) | exact ((((Below.refl _ _).alloc (Nat.le_refl _) _).setCell (by simp) _).setCell (by simp) _)⟩

theorem val_app (l : List UInt8) (k : Nat) : val l = val (l.take k) * 256 ^ (l.drop k).length + val (l.drop k) := by
  have key : ∀ (m : List UInt8) (x : Nat), m.foldl (fun x b => x * 256 + b.toNat) x = x * 256 ^ m.length + val m := by
    intro m
    induction m with
    | nil => intro x; simp [val]
    | cons b m ih =>
      intro x
      have h1 := ih (x * 256 + b.toNat)
      have h2 := ih (0 * 256 + b.toNat)
      unfold val
      simp only [List.foldl_cons, List.length_cons, Nat.pow_succ]
      rw [h1, h2, Nat.add_mul, Nat.zero_mul, Nat.zero_add, Nat.mul_assoc, Nat.mul_comm 256 (256 ^ m.length)]
      omega
  have h := key (l.drop k) (val (l.take k))
  rw [← h]
  unfold val
  rw [← List.foldl_append, List.take_append_drop]
/-- the first bit of eight bytes -/
theorem val_top (l : List UInt8) (h : l.length = 12) : (9223372036854775807 < val (l.take 8)) ↔ 127 < (l.getD 0 0).toNat := by
  have h1 := val_app (l.take 8) 1
  have hl : ((l.take 8).drop 1).length = 7 := by rw [List.length_drop, List.length_take]; omega
  have h2 := val_lt ((l.take 8).drop 1)
  rw [hl] at h1 h2
  have h3 : (l.take 8).take 1 = [l.getD 0 0] := by
    match l, h with
    | a :: r, _ => simp
  rw [h3] at h1
  have h4 : val [l.getD 0 0] = (l.getD 0 0).toNat := by simp [val]
  rw [h4] at h1
  have h5 : (256 : Nat) ^ 7 = 72057594037927936 := by decide
  rw [h5] at h1 h2
  omega

set_option maxRecDepth 100000 in
theorem refGet (A : Option Addr) (c : Nat) (l : List UInt8) (w : World) (ha : Bs w A c l) :
    Calls Try.prog 52 #[.slice A l.length c] w (Pure w (stVal (stGet l))) := by
  have HA := Lib.hid ha
  have hmax := ha.max
  clear ha
  by_cases h12 : l.length = 12
  · have hne : ((l.length : Int) != 12) = false := by rw [bne_eq_false_iff_eq]; omega
    have H12 := Lib.hid h12
    obtain ⟨t, ht⟩ : ∃ t, stGet l = t := ⟨_, rfl⟩
    rw [ht]
    unfold stGet at ht
    rw [if_pos h12] at ht
    have HT := Lib.hid ht
    have HTOP := Lib.hid (val_top l h12)
    clear ht
    have hl1 : 12 ≤ l.length := by omega
    have hl2 : l.length ≤ 12 := by omega
    obtain ⟨ad0, e0, hadl0, c00⟩ := HA.out.at_ 0 (by omega)
    have c01 := (((Below.refl w.heap.size w).alloc (Nat.le_refl _) (.cells #[.int .i64 0, .int .i64 0] 25)).cell (p := ad0.add 0) (by rw [addr_add_block]; exact hadl0)).trans c00
    have ea : ad0.add 0 = ad0 := by unfold Addr.add; simp
    rw [ea] at c01
    subst e0
    clear h12 c00 hadl0 ea
    by_cases g1 : 127 < (l.getD 0 0).toNat
    · have h := HT.out
      rw [if_pos (.inl (HTOP.out.2 g1))] at h
      subst h
      clear HT HTOP
      generalize l.getD 0 0 = b at *
      go_enter Try.func52, Try.ntmps52
      go_wp2_with fail
      exact bodyPost_ret (v := stVal (0, 0, 60)) (by simp [stVal, results, Try.results52, go_sem]) rfl ⟨rfl, by first | exact (Below.refl _ _).alloc (Nat.le_refl _) _ | exact (((Below.refl _ _).alloc (Nat.le_refl _) _).setCell (by simp) _) | exact ((((Below.refl _ _).alloc (Nat.le_refl _) _).setCell (by simp) _).setCell (by simp) _)⟩
    · have htop : val (l.take 8) ≤ 9223372036854775807 := by have := HTOP.out; omega
      have HTP := Lib.hid htop
      generalize hq : l.getD 0 0 = b0 at *
      have HQ := Lib.hid hq
      clear hq htop HTOP
      go_enter Try.func52, Try.ntmps52
      go_wp2_with fail
      go_loopg [4, 5] 8 (fun gk s i wr => ∃ k : Nat, k ≤ 8 ∧ gk = 8 - k ∧ i = .int .i64 (k : Int) ∧ wr = w.alloc (.cells #[.int .i64 0, .int .i64 0] 25) ∧ s = .int .i64 (val (l.take k) : Int))
      case atStart => exact ⟨0, by omega, rfl, rfl, rfl, by simp [val]⟩
      case round =>
        obtain ⟨k, hk, rfl, rfl, rfl, rfl⟩ := hrel
        by_cases hlt : k < 8
        · have hlt2 : (k : Int) < 8 := by omega
          obtain ⟨ad, e1, hadl, c1⟩ := HA.out.at_ k (by omega)
          injection e1 with e1
          subst e1
          have c2 := (((Below.refl w.heap.size w).alloc (Nat.le_refl _) (.cells #[.int .i64 0, .int .i64 0] 25)).cell (p := ad0.add k) (by rw [addr_add_block]; exact hadl)).trans c1
          have hs := take_snoc8 (l := l) (i := k) (by omega)
          have HN : Hid (val (l.take (k + 1)) = val (l.take k) * 256 + (l.getD k 0).toNat) := by rw [Hid, hs, val_snoc]
          have hv : val (l.take k) * 256 + (l.getD k 0).toNat ≤ 9223372036854775807 := by
            rw [← HN.out]
            by_cases h7 : k = 7
            · subst h7; exact HTP.out
            · have := val_small (l := l.take (k + 1)) (k := k + 1) (by rw [List.length_take]; omega) (by omega)
              omega
          clear hs c1 hadl
          generalize l.getD k 0 = b at *
          generalize val (l.take k) = x at *
          go_wp2_with fail
          go_roundg (8 - (k + 1))
          case measure => omega
          case rel =>
            refine ⟨k + 1, by omega, rfl, by go_num, rfl, ?_⟩
            rw [HN.out]; push_cast; rfl
        · obtain rfl : k = 8 := by omega
          clear hlt
          go_wp2_with fail
          go_loopg [6, 7] 4 (fun gk s i wr => ∃ k : Nat, k ≤ 4 ∧ gk = 4 - k ∧ i = .int .i64 ((8 : Int) + k) ∧ wr = w.alloc (.cells #[.int .i64 0, .int .i64 0] 25) ∧ s = .int .i64 (val ((l.drop 8).take k) : Int))
          case atStart => exact ⟨0, by omega, rfl, rfl, rfl, by simp [val]⟩
          case round =>
            obtain ⟨k, hk, rfl, rfl, rfl, rfl⟩ := hrel
            by_cases hlt : k < 4
            · have hlt2 : (8 : Int) + k < 12 := by omega
              obtain ⟨ad, e1, hadl, c1⟩ := HA.out.at_ (8 + k) (by omega)
              injection e1 with e1
              subst e1
              have c2 := (((Below.refl w.heap.size w).alloc (Nat.le_refl _) (.cells #[.int .i64 0, .int .i64 0] 25)).cell (p := ad0.add (8 + k)) (by rw [addr_add_block]; exact hadl)).trans c1
              have hs := take_snoc8 (l := l.drop 8) (i := k) (by rw [List.length_drop]; omega)
              have hg : (l.drop 8).getD k 0 = l.getD (8 + k) 0 := by simp
              rw [hg] at hs
              have HN : Hid (val ((l.drop 8).take (k + 1)) = val ((l.drop 8).take k) * 256 + (l.getD (8 + k) 0).toNat) := by rw [Hid, hs, val_snoc]
              have hv : val ((l.drop 8).take k) * 256 + (l.getD (8 + k) 0).toNat ≤ 9223372036854775807 := by
                have := val_small (l := (l.drop 8).take k) (k := k) (by rw [List.length_take]; omega) (by omega)
                have := val_small (l := (l.drop 8).take (k + 1)) (k := k + 1) (by rw [List.length_take]; omega) (by omega)
                rw [HN.out] at this
                omega
              clear hs c1 hadl hg
              generalize l.getD (8 + k) 0 = b at *
              generalize val ((l.drop 8).take k) = x at *
              go_wp2_with fail
              go_roundg (4 - (k + 1))
              case measure => omega
              case rel =>
                refine ⟨k + 1, by omega, rfl, by go_num, rfl, ?_⟩
                rw [HN.out]; push_cast; rfl
            · obtain rfl : k = 4 := by omega
              have e2 : (l.drop 8).take 4 = l.drop 8 := List.take_of_length_le (by rw [List.length_drop]; omega)
              rw [e2]
              clear e2 hlt
              have hn8 : val (l.drop 8) < 4294967296 := Nat.lt_of_lt_of_le (val_lt _) (Nat.le_trans (Nat.pow_le_pow_right (by omega) (show (l.drop 8).length ≤ 4 by rw [List.length_drop]; omega)) (by decide))
              have htp := HTP.out
              have hcs : (999999999 < val (l.drop 8) ∧ t = (0, 0, 60)) ∨ (¬ 999999999 < val (l.drop 8) ∧ t = ((val (l.take 8) : Int), (val (l.drop 8) : Int), 0)) := by
                have h := HT.out
                by_cases g2 : 999999999 < val (l.drop 8)
                · exact .inl ⟨g2, by rw [← h, if_pos (.inr g2)]⟩
                · exact .inr ⟨g2, by rw [← h, if_neg (by omega)]⟩
              clear HT HTP
              generalize val (l.take 8) = x at *
              generalize val (l.drop 8) = y at *
              rcases hcs with ⟨g2, rfl⟩ | ⟨g2, rfl⟩
              · go_wp2_with fail
                exact bodyPost_ret (v := stVal (0, 0, 60)) (by simp [stVal, results, Try.results52, go_sem]) rfl ⟨rfl, by first | exact (Below.refl _ _).alloc (Nat.le_refl _) _ | exact (((Below.refl _ _).alloc (Nat.le_refl _) _).setCell (by simp) _) | exact ((((Below.refl _ _).alloc (Nat.le_refl _) _).setCell (by simp) _).setCell (by simp) _)⟩
              · go_wp2_with fail
                exact bodyPost_ret (v := stVal ((x : Int), (y : Int), 0)) (by simp [stVal, results, Try.results52, go_sem]) rfl ⟨rfl, by first | exact (Below.refl _ _).alloc (Nat.le_refl _) _ | exact (((Below.refl _ _).alloc (Nat.le_refl _) _).setCell (by simp) _) | exact ((((Below.refl _ _).alloc (Nat.le_refl _) _).setCell (by simp) _).setCell (by simp) _)⟩
  · have hne : ((l.length : Int) != 12) = true := by rw [bne_iff_ne]; omega
    have ht : stGet l = (0, 0, 60) := by unfold stGet; rw [if_neg h12]
    rw [ht]
    clear ht h12
    go_enter Try.func52, Try.ntmps52
    go_wp2_with fail
    exact bodyPost_ret (v := stVal (0, 0, 60)) (by simp [stVal, results, Try.results52, go_sem]) rfl ⟨rfl, by first | exact (Below.refl _ _).alloc (Nat.le_refl _) _ | exact (((Below.refl _ _).alloc (Nat.le_refl _) _).setCell (by simp) _) | exact ((((Below.refl _ _).alloc (Nat.le_refl _) _).setCell (by simp) _).setCell (by simp) _)⟩
end Go.Proofs.Ytgbjhlkjceonpaa.Help
