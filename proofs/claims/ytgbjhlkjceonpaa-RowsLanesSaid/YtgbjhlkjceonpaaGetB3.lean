/- The walk of the document's GetBoots. -/
import Derived.Test.YtgbjhlkjceonpaaGetB2
namespace Go.Proofs.Ytgbjhlkjceonpaa.Help
open Go.RowKit Go.Proofs.Ytgbjhlkjceonpaa.K
set_option linter.unusedVariables false

theorem takes_rd (v : List UInt8) (n : Nat) : val (takes v 0 n 0).1 = rdAt v 0 n := by
  unfold takes rdAt cutN
  simp only [ne_eq, not_true, if_false]
  split
  · rw [if_pos (by omega)]; rfl
  · rw [if_neg (by omega)]
theorem asInt_small {x : Nat} (h : x ≤ 9223372036854775807) : asInt x = x := by unfold asInt; rw [wrap64]; omega
theorem asInt_big {x : Nat} (h : 4611686018427387904 < x) (h2 : x < 18446744073709551616) : (putBoots (asInt x)).2.2 = 114 := by
  unfold putBoots
  rw [if_pos]
  unfold asInt; rw [wrap64]; omega
theorem putBoots_len {n : Int} (h : (putBoots n).2.2 = 0) : (putBoots n).2.1.length = 8 := by
  unfold putBoots at h ⊢
  split at h
  · cases h
  · rename_i h2; rw [if_neg h2]; exact be_len 8 _
theorem rdAt_lt (v : List UInt8) : rdAt v 0 8 < 18446744073709551616 := by
  unfold rdAt
  split
  · decide
  · exact Nat.lt_of_lt_of_le (val_pow (l := (v.drop 0).take 8) (k := 8) (by rw [List.length_take]; omega)) (by decide)
set_option maxRecDepth 100000 in
set_option maxHeartbeats 1000000 in
theorem refGetBoots_any (A B : Option Addr) (c d : Nat) (k v : List UInt8) (w : World) (ha : Bs w A c k) (hb : Bs w B d v) :
    Calls Try.prog 21 #[.agg #[.slice A k.length c, .slice B v.length d]] w (Pure w (readAs (putBoots (asInt (rdAt v 0 8))) k v (.int .i64 (asInt (rdAt v 0 8))) (.int .i64 0))) := by
  have H0 := Lib.hid (RdS.start w (.slice A k.length c) (.slice B v.length d))
  have R := Lib.hid (read B d v 0 8 _ (H0.out.bs hb) (by decide) (by decide))
  have HA := Lib.hid (H0.out.bs ha)
  have HB := Lib.hid (H0.out.bs hb)
  have hlt := rdAt_lt v
  have h1 := ha.max
  have h2 := hb.max
  clear ha hb
  by_cases hbad : v.length ≠ 8 ∨ 4611686018427387904 < rdAt v 0 8
  · have HE : Hid (readAs (putBoots (asInt (rdAt v 0 8))) k v (.int .i64 (asInt (rdAt v 0 8))) (.int .i64 0) = .tuple #[.int .i64 0, .int .i64 114]) := by
      refine readAs_no (fun h => ?_)
      rcases hbad with h5 | h5
      · have := putBoots_len h.1; rw [h.2.2] at this; exact h5 this
      · rw [asInt_big h5 hlt] at h; exact absurd h.1 (by decide)
    rw [HE.out]
    clear HE
    generalize rdAt v 0 8 = x at *
    rcases hbad with h5 | h5
    · have h6 : ((v.length : Int) != 8) = true := by rw [bne_iff_ne]; omega
      go_enter Try.func21, Try.ntmps21
      go_wp2_with fail
      refine R.out.mono ?_
      rintro e w1 ⟨rfl, rfl⟩
      go_wp2_with fail
      exact bodyPost_ret (v := .tuple #[.int .i64 0, .int .i64 114]) (by simp [results, Try.results21, go_sem]) rfl ⟨rfl, H0.out.below⟩
    · by_cases h8 : v.length = 8
      · have h6 : ((v.length : Int) != 8) = false := by rw [bne_eq_false_iff_eq]; omega
        have h7 : (4611686018427387904 : Int) < x := by omega
        clear h8
        go_enter Try.func21, Try.ntmps21
        go_wp2_with fail
        refine R.out.mono ?_
        rintro e w1 ⟨rfl, rfl⟩
        go_wp2_with fail
        exact bodyPost_ret (v := .tuple #[.int .i64 0, .int .i64 114]) (by simp [results, Try.results21, go_sem]) rfl ⟨rfl, H0.out.below⟩
      · have h6 : ((v.length : Int) != 8) = true := by rw [bne_iff_ne]; omega
        clear h8
        go_enter Try.func21, Try.ntmps21
        go_wp2_with fail
        refine R.out.mono ?_
        rintro e w1 ⟨rfl, rfl⟩
        go_wp2_with fail
        exact bodyPost_ret (v := .tuple #[.int .i64 0, .int .i64 114]) (by simp [results, Try.results21, go_sem]) rfl ⟨rfl, H0.out.below⟩
  · have h8 : v.length = 8 := by omega
    have h9 : rdAt v 0 8 ≤ 4611686018427387904 := by omega
    rw [asInt_small (by omega)]
    generalize rdAt v 0 8 = x at *
    clear hbad
    have P : Hid (∀ w, Calls Try.prog 19 #[.int .i64 (x : Int)] w (RowRet w (putBoots x).1 (putBoots x).2.1 (putBoots x).2.2)) := Lib.hid (fun w => refPutBoots_any _ w (by omega))
    have h0 : (putBoots x).2.2 = 0 := by unfold putBoots; rw [if_neg (by omega)]
    generalize putBoots x = p at *
    obtain ⟨k', v', code⟩ := p
    dsimp only at P h0
    subst h0
    have h6 : ((v.length : Int) != 8) = false := by rw [bne_eq_false_iff_eq]; omega
    have h7 : ¬ (4611686018427387904 : Int) < x := by omega
    clear h8
    go_enter Try.func21, Try.ntmps21
    go_wp2_with fail
    refine R.out.mono ?_
    rintro e w1 ⟨rfl, rfl⟩
    go_wp2_with fail
    refine (P.out _).mono ?_
    rintro e w4 ⟨v1, v2, rfl, o1, o2, hb4⟩
    obtain ⟨A1, c1, rfl, q1⟩ := o1.bs
    obtain ⟨A2, c2, rfl, q2⟩ := o2.bs
    have hb5 := below_alloc hb4 (.cells #[.slice A1 k'.length c1, .slice A2 v'.length c2] 29)
    have hb6 := below_alloc (Below.refl w4.heap.size w4) (.cells #[.slice A1 k'.length c1, .slice A2 v'.length c2] 29)
    have S := Lib.hid (sameRow A1 A2 A B c1 c2 c d k' v' k v _ (q1.below hb6) (q2.below hb6) (HA.out.below hb5) (HB.out.below hb5))
    have HB4 := Lib.hid (below_step H0.out.below hb5)
    have k0 := (H0.out.step hb5).c0
    have k1 := (H0.out.step hb5).c1
    clear o1 o2 hb4 q1 q2 hb5 hb6
    by_cases hkv : k' = k ∧ v' = v
    · have hd : (decide (k' = k) && decide (v' = v)) = true := by simp [hkv.1, hkv.2]
      rw [hd] at S
      have HE : Hid (Value.tuple #[Value.int .i64 x, .int .i64 0] = readAs (k', v', 0) k v (.int .i64 x) (.int .i64 0)) := Lib.hid (if_pos ⟨rfl, hkv.1, hkv.2⟩).symm
      clear hkv hd
      go_wp2_with fail
      refine S.out.mono ?_
      rintro e w5 ⟨rfl, hb5⟩
      have HB5 := Lib.hid (below_step HB4.out hb5)
      clear hb5
      go_wp2_with fail
      exact bodyPost_ret (v := .tuple #[.int .i64 x, .int .i64 0]) (by simp [results, Try.results21, go_sem]) rfl ⟨by rw [← HE.out], HB5.out⟩
    · have hd : (decide (k' = k) && decide (v' = v)) = false := by
        rw [Bool.and_eq_false_iff]
        by_cases h : k' = k
        · exact .inr (decide_eq_false (fun h' => hkv ⟨h, h'⟩))
        · exact .inl (decide_eq_false h)
      rw [hd] at S
      have HE : Hid (Value.tuple #[Value.int .i64 0, .int .i64 114] = readAs (k', v', 0) k v (.int .i64 x) (.int .i64 0)) := Lib.hid (if_neg (fun h => hkv h.2)).symm
      clear hkv hd
      go_wp2_with fail
      refine S.out.mono ?_
      rintro e w5 ⟨rfl, hb5⟩
      have HB5 := Lib.hid (below_step HB4.out hb5)
      clear hb5
      go_wp2_with fail
      exact bodyPost_ret (v := .tuple #[.int .i64 0, .int .i64 114]) (by simp [results, Try.results21, go_sem]) rfl ⟨by rw [← HE.out], HB5.out⟩
end Go.Proofs.Ytgbjhlkjceonpaa.Help
