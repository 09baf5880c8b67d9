/- The walks of the document's number and read (culvertref15). -/
import Derived.Test.YtgbjhlkjceonpaaHelp
namespace Go.Proofs.Ytgbjhlkjceonpaa.Help
open Go.RowKit Go.Proofs.Ytgbjhlkjceonpaa.K
set_option linter.unusedVariables false

theorem be_get (n x j : Nat) (h : j < n) : (be n x).getD j 0 = UInt8.ofNat (x / 2 ^ (8 * (n - 1 - j))) := by
  induction n generalizing j with
  | zero => omega
  | succ n ih =>
    cases j with
    | zero => simp [be]
    | succ j =>
      have := ih j (by omega)
      simp only [be, List.getD_cons_succ]
      rw [this]
      congr 3
      omega
set_option maxRecDepth 100000 in
theorem number (x n : Nat) (w : World) (hn : n ≤ 8) (hx : x < 18446744073709551616) :
    Calls Try.prog 40 #[.int .u64 (x : Int), .int .i64 (n : Int)] w (Ret w (be n x)) := by
  go_enter Try.func40, Try.ntmps40
  go_wp2_with fail
  go_loopg [5, 6] n (fun gk v i wr => ∃ j : Nat, j ≤ n ∧ gk = n - j ∧ i = .int .i64 ((n : Int) - 1 - j) ∧ Own wr w.heap.size v ((be n x).take j) ∧ Below w.heap.size w wr)
  case atStart => exact ⟨0, by omega, rfl, by simp, by simpa using Own.nil w _, Below.refl _ _⟩
  case round =>
    obtain ⟨j, hj, rfl, rfl, hO, hB⟩ := hrel
    obtain ⟨VA, vc, rfl, _⟩ := hO.bs
    have hbl := be_len n x
    have hlk : ((be n x).take j).length = j := by rw [List.length_take]; omega
    have HO := Lib.hid hO
    have HB := Lib.hid hB
    clear hO hB
    rw [hlk] at HO
    rw [hlk]
    by_cases hlt : j < n
    · obtain ⟨m, hm⟩ : ∃ m : Nat, n - 1 - j = m := ⟨_, rfl⟩
      have hmi : (n : Int) - 1 - j = m := by omega
      have hm8 : m ≤ 7 := by omega
      have HX := Lib.hid (take_snoc8 (l := be n x) (i := j) (by omega))
      have HG := Lib.hid (be_get n x j hlt)
      have hw := kind8 x m
      rw [hm] at HG
      have HK := Lib.hid hlk
      have HMI := Lib.hid hmi
      rw [hmi]
      clear hlk hbl hm hmi
      generalize UInt8.ofNat (x / 2 ^ (8 * m)) = y at *
      go_wp2_with (at_builtin; refine push_u8 (W0 := w) rfl (.tmp 13) (.tmp 19) rfl (.slice VA j vc) ((be n x).take j) y rfl rfl HO.out HB.out (by rw [HK.out]; omega) ?_; intro A1 c1 w1 hO1 hB1; rw [HK.out] at hO1 ⊢; have HO1 := Lib.hid hO1; have HB1 := Lib.hid hB1; clear hO1 hB1)
      go_roundg (n - (j + 1))
      case measure => omega
      case rel =>
        refine ⟨j + 1, by omega, rfl, ?_, ?_, HB1.out⟩
        · have := HMI.out; congr 1; omega
        · rw [HX.out, HG.out]; exact HO1.out
    · obtain rfl : j = n := by omega
      have hneg : (j : Int) - 1 - j = -1 := by omega
      rw [hneg]
      go_wp2_with fail
      go_ret
      refine ⟨_, rfl, ?_, HB.out⟩
      have h := HO.out
      rw [List.take_of_length_le (by omega)] at h
      have e : (.slice VA j vc : Value) = .slice VA j vc := rfl
      exact h

/-- the number that bytes say, the highest first -/
def val (l : List UInt8) : Nat := l.foldl (fun x b => x * 256 + b.toNat) 0
theorem val_snoc (l : List UInt8) (b : UInt8) : val (l ++ [b]) = val l * 256 + b.toNat := by simp [val]
theorem val_aux (l : List UInt8) : ∀ x : Nat, l.foldl (fun x b => x * 256 + b.toNat) x < (x + 1) * 256 ^ l.length := by
  induction l with
  | nil => intro x; simp
  | cons b l ih =>
    intro x
    have h := ih (x * 256 + b.toNat)
    have hb := b.toNat_lt
    have h2 : (x * 256 + b.toNat + 1) * 256 ^ l.length ≤ ((x + 1) * 256) * 256 ^ l.length := Nat.mul_le_mul_right _ (by omega)
    simp only [List.foldl_cons, List.length_cons, Nat.pow_succ]
    have h3 : (x + 1) * (256 ^ l.length * 256) = ((x + 1) * 256) * 256 ^ l.length := by rw [Nat.mul_comm (256 ^ l.length) 256, Nat.mul_assoc]
    omega
theorem val_lt (l : List UInt8) : val l < 256 ^ l.length := by
  have := val_aux l 0
  simpa [val] using this
theorem val_small {l : List UInt8} {k : Nat} (h : l.length ≤ k) (hk : k ≤ 7) : val l < 72057594037927936 :=
  Nat.lt_of_lt_of_le (val_lt l) (Nat.le_trans (Nat.pow_le_pow_right (by omega) (show l.length ≤ 7 by omega)) (by decide))
theorem or_byte (v : Nat) (b : UInt8) (hv : v < 72057594037927936) : bits .or .u64 ((v : Int) * 256) ((b.toNat : Int)) = ((v * 256 + b.toNat : Nat) : Int) := by
  have hb := b.toNat_lt
  have h := bor_eq (a := v * 256) (b := b.toNat) (by unfold B64; omega) (by unfold B64; omega)
  have e : bor (v * 256) b.toNat = v * 256 + b.toNat := by
    unfold bor
    have := Nat.shiftLeft_add_eq_or_of_lt (i := 8) (b := b.toNat) (by omega) v
    rw [Nat.shiftLeft_eq] at this
    simpa using this.symm
  rw [e] at h
  simpa using h
def rdAt (l : List UInt8) (at_ n : Nat) : Nat := if l.length < at_ + n then 0 else val ((l.drop at_).take n)

set_option maxRecDepth 100000 in
theorem read (A : Option Addr) (c : Nat) (l : List UInt8) (a n : Nat) (w : World) (ha : Bs w A c l) (han : a ≤ 64) (hn : n ≤ 8) :
    Calls Try.prog 51 #[.slice A l.length c, .int .i64 (a : Int), .int .i64 (n : Int)] w fun e w' => e = .returned (.int .u64 (rdAt l a n : Int)) ∧ w = w' := by
  have HA := Lib.hid ha
  have h1 := ha.max
  clear ha
  obtain ⟨t, ht⟩ : ∃ t, rdAt l a n = t := ⟨_, rfl⟩
  rw [ht]
  unfold rdAt at ht
  by_cases hlen : l.length < a + n
  · have hl2 : (l.length : Int) < a + n := by omega
    rw [if_pos hlen] at ht
    subst ht
    clear hlen
    go_enter Try.func51, Try.ntmps51
    go_wp2_with fail
    go_ret
    exact ⟨rfl, rfl⟩
  · have hl2 : ¬ (l.length : Int) < a + n := by omega
    rw [if_neg hlen] at ht
    have HT := Lib.hid ht
    clear ht
    go_enter Try.func51, Try.ntmps51
    go_wp2_with fail
    go_loop [7, 8] (fun x i => ∃ k : Nat, k ≤ n ∧ i = .int .i64 (k : Int) ∧ ∃ v : Nat, x = .int .u64 (v : Int) ∧ Hid (val ((l.drop a).take k) = v)) (fun _ i => n - (intOf i).toNat)
    case atStart => exact ⟨0, by omega, rfl, 0, rfl, rfl⟩
    case round =>
      obtain ⟨k, hk, rfl, v, rfl, HV⟩ := hrel
      by_cases hlt : k < n
      · obtain ⟨ad, e1, _, c1⟩ := HA.out.at_ (a + k) (by omega)
        subst e1
        have hlt2 : (k : Int) < n := by omega
        have hdl : k < (l.drop a).length := by rw [List.length_drop]; omega
        have hg : (l.drop a).getD k 0 = l.getD (a + k) 0 := by simp
        have hs := take_snoc8 hdl
        rw [hg] at hs
        have hvlt : v < 256 ^ k := by
          have := val_lt ((l.drop a).take k)
          rw [HV.out, List.length_take] at this
          rwa [Nat.min_eq_left (by omega)] at this
        have hv2 : v < 72057594037927936 := Nat.lt_of_lt_of_le hvlt (Nat.le_trans (Nat.pow_le_pow_right (by omega) (show k ≤ 7 by omega)) (by decide))
        have HN : Hid (val ((l.drop a).take (k + 1)) = v * 256 + (l.getD (a + k) 0).toNat) := by rw [Hid, hs, val_snoc, HV.out]
        clear hs hg hdl hvlt
        generalize l.getD (a + k) 0 = b at *
        have hb := b.toNat_lt
        have hor := or_byte v b hv2
        go_wp2_with fail
        go_round
        case rel =>
          exact ⟨k + 1, by omega, by go_num, v * 256 + b.toNat, by push_cast; rfl, HN⟩
        case measure => simp [intOf]; omega
      · have hlt2 : ¬ (k : Int) < n := by omega
        obtain rfl : k = n := by omega
        have HF : Hid (v = t) := by rw [Hid, ← HV.out]; exact HT.out
        go_wp2_with fail
        go_ret
        have h := HF.out
        subst h
        exact ⟨rfl, rfl⟩
end Go.Proofs.Ytgbjhlkjceonpaa.Help
