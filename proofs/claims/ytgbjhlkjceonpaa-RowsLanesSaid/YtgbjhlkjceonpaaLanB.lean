/- Plain: what the readers tell of a lane's row. -/
import Derived.Test.YtgbjhlkjceonpaaLanS
namespace Go.Proofs.Ytgbjhlkjceonpaa.Help
open Go.RowKit Go.Proofs.Ytgbjhlkjceonpaa.K
set_option linter.unusedVariables false

theorem val_cons (b : UInt8) (l : List UInt8) : val (b :: l) = b.toNat * 256 ^ l.length + val l := by
  have aux : ∀ (l : List UInt8) (x : Nat), l.foldl (fun x b => x * 256 + b.toNat) x = x * 256 ^ l.length + l.foldl (fun x b => x * 256 + b.toNat) 0 := by
    intro l
    induction l with
    | nil => intro x; simp
    | cons c l ih =>
      intro x
      simp only [List.foldl_cons, List.length_cons]
      rw [ih (x * 256 + c.toNat), ih (0 * 256 + c.toNat), Nat.pow_succ, Nat.add_mul, Nat.add_mul]
      have : x * 256 * 256 ^ l.length = x * (256 ^ l.length * 256) := by rw [Nat.mul_assoc, Nat.mul_comm 256]
      omega
  unfold val
  rw [List.foldl_cons, aux l (0 * 256 + b.toNat)]
  simp
theorem val_be (n x : Nat) : val (be n x) = x % 256 ^ n := by
  induction n with
  | zero => simp [be, val, Nat.mod_one]
  | succ n ih =>
    rw [be, val_cons, ih, be_len, Nat.mod_pow_succ]
    have : 2 ^ (8 * n) = 256 ^ n := by rw [Nat.pow_mul]
    rw [this]
    have h2 : (UInt8.ofNat (x / 256 ^ n)).toNat = x / 256 ^ n % 256 := by simp
    rw [h2, Nat.mul_comm]
    omega
theorem takes_ok {L : List UInt8} {p n : Nat} (h : p + n ≤ L.length) : takes L p n 0 = (cutN L p n, true, p + n, 0) := by
  unfold takes
  rw [if_neg (by simp), if_neg (by omega)]
theorem cut_mid (A B C : List UInt8) {p n : Nat} (hp : A.length = p) (hn : B.length = n) : cutN (A ++ (B ++ C)) p n = B := by
  unfold cutN
  subst hp hn
  rw [List.drop_left, List.take_left]
theorem laneRd_len {k v : List UInt8} (hk : k.length = 33) (hv : v.length = 37) :
    laneRd k v = ⟨k.drop 1, val (cutN v 0 1), val (cutN v 1 4), val (cutN v 5 4), val (cutN v 9 8), val (cutN v 17 8), (stGet (v.drop 25)).1, (stGet (v.drop 25)).2.1⟩ := by
  unfold laneRd
  have e0 : takes k 0 1 0 = (cutN k 0 1, true, 1, 0) := takes_ok (by omega)
  have e1 : takes v 0 1 0 = (cutN v 0 1, true, 1, 0) := takes_ok (by omega)
  have e2 : takes v 1 4 0 = (cutN v 1 4, true, 5, 0) := takes_ok (by omega)
  have e3 : takes v 5 4 0 = (cutN v 5 4, true, 9, 0) := takes_ok (by omega)
  have e4 : takes v 9 8 0 = (cutN v 9 8, true, 17, 0) := takes_ok (by omega)
  have e5 : takes v 17 8 0 = (cutN v 17 8, true, 25, 0) := takes_ok (by omega)
  have l0 : Left k 1 0 = 32 := by unfold Left; simp; omega
  have l5 : Left v 25 0 = 12 := by unfold Left; simp; omega
  have e6 : takes v 25 12 0 = (cutN v 25 12, true, 37, 0) := takes_ok (by omega)
  have ek : takes k 1 32 0 = (cutN k 1 32, true, 33, 0) := takes_ok (by omega)
  have c1 : cutN k 1 32 = k.drop 1 := List.take_of_length_le (by rw [List.length_drop]; omega)
  have c2 : cutN v 25 12 = v.drop 25 := List.take_of_length_le (by rw [List.length_drop]; omega)
  simp only [e0, e1, e2, e3, e4, e5, e6, ek, l0, l5, c1, c2]
theorem laneGet_bad {k v : List UInt8} (h : k.length ≠ 33 ∨ v.length ≠ 37) : laneGet k v = (zeroLane, 114) := by
  refine if_neg (fun hh => ?_)
  have := putLane_len hh.1
  rw [hh.2.1, hh.2.2] at this
  omega
theorem stGet_put {sec nano : Nat} (h1 : sec ≤ 9223372036854775807) (h2 : nano ≤ 999999999) : stGet (stPut sec nano) = ((sec : Int), (nano : Int), 0) := by
  unfold stGet
  have e1 : (stPut sec nano).take 8 = be 8 sec := by unfold stPut; rw [List.take_append_of_le_length (by rw [be_len]; omega), List.take_of_length_le (by rw [be_len]; omega)]
  have e2 : (stPut sec nano).drop 8 = be 4 nano := by unfold stPut; rw [List.drop_append_of_le_length (by rw [be_len]; omega), List.drop_of_length_le (by rw [be_len]; omega)]; rfl
  have v1 : val (be 8 sec) = sec := by rw [val_be, Nat.mod_eq_of_lt (by omega)]
  have v2 : val (be 4 nano) = nano := by rw [val_be, Nat.mod_eq_of_lt (by omega)]
  rw [if_pos (stPut_len ..), e1, e2, v1, v2, if_neg (by omega)]
/-- P15.3 for lanes: Get behind Put -/
theorem laneGet_put {d : LaneD} (hd : LaneB d) (h : laneOk d) : laneGet (putLane d).1 (putLane d).2.1 = (d, 0) := by
  have hp := putLane_yes h
  obtain ⟨key, side, cur, next, sc, ceil, sec, nano⟩ := d
  obtain ⟨b1, b2, b3⟩ := hd
  dsimp only at b1 b2 b3
  obtain ⟨g1, g2, g3, g4, g5, g6, hv⟩ := h
  dsimp only at g1 g2 g3 g4 g5 g6 hv
  have hst : 0 ≤ sec ∧ 0 ≤ nano ∧ nano ≤ 999999999 := by unfold stV at hv; simp at hv; omega
  obtain ⟨cu, rfl⟩ : ∃ n : Nat, cur = n := ⟨cur.toNat, by omega⟩
  obtain ⟨ne, rfl⟩ : ∃ n : Nat, next = n := ⟨next.toNat, by omega⟩
  obtain ⟨se, rfl⟩ : ∃ n : Nat, sec = n := ⟨sec.toNat, by omega⟩
  obtain ⟨na, rfl⟩ : ∃ n : Nat, nano = n := ⟨nano.toNat, by omega⟩
  obtain ⟨sd, rfl, hsd⟩ : ∃ n : Nat, side = n ∧ n ≤ 1 := ⟨side.toNat, by omega, by omega⟩
  dsimp only [Int.toNat_natCast] at hp
  have hr : laneRd (putLane ⟨key, sd, cu, ne, sc, ceil, se, na⟩).1 (putLane ⟨key, sd, cu, ne, sc, ceil, se, na⟩).2.1 = ⟨key, sd, cu, ne, sc, ceil, se, na⟩ := by
    rw [hp]
    dsimp only
    rw [laneRd_len (by simp [g1]) (laneVal_len ..)]
    have ev : laneVal sd cu ne sc ceil se na = [] ++ ([UInt8.ofNat sd] ++ (be 4 cu ++ (be 4 ne ++ (be 8 sc ++ (be 8 ceil ++ stPut se na))))) := by simp [laneVal]
    have c0 : cutN (laneVal sd cu ne sc ceil se na) 0 1 = [UInt8.ofNat sd] := by rw [ev]; exact cut_mid [] _ _ rfl rfl
    have c1 : cutN (laneVal sd cu ne sc ceil se na) 1 4 = be 4 cu := by
      rw [ev, List.nil_append]; exact cut_mid [UInt8.ofNat sd] _ _ rfl (be_len _ _)
    have c2 : cutN (laneVal sd cu ne sc ceil se na) 5 4 = be 4 ne := by
      rw [ev, List.nil_append, ← List.append_assoc]; exact cut_mid ([UInt8.ofNat sd] ++ be 4 cu) _ _ (by simp [be_len]) (be_len _ _)
    have c3 : cutN (laneVal sd cu ne sc ceil se na) 9 8 = be 8 sc := by
      rw [ev, List.nil_append, ← List.append_assoc, ← List.append_assoc]; exact cut_mid ([UInt8.ofNat sd] ++ be 4 cu ++ be 4 ne) _ _ (by simp [be_len]) (be_len _ _)
    have c4 : cutN (laneVal sd cu ne sc ceil se na) 17 8 = be 8 ceil := by
      rw [ev, List.nil_append, ← List.append_assoc, ← List.append_assoc, ← List.append_assoc]; exact cut_mid ([UInt8.ofNat sd] ++ be 4 cu ++ be 4 ne ++ be 8 sc) _ _ (by simp [be_len]) (be_len _ _)
    have c5 : (laneVal sd cu ne sc ceil se na).drop 25 = stPut se na := by
      have : laneVal sd cu ne sc ceil se na = ([UInt8.ofNat sd] ++ be 4 cu ++ be 4 ne ++ be 8 sc ++ be 8 ceil) ++ stPut se na := by simp [laneVal]
      rw [this]; exact List.drop_left' (by simp [be_len])
    rw [c0, c1, c2, c3, c4, c5, stGet_put (by omega) (by omega)]
    have v0 : val [UInt8.ofNat sd] = sd := by
      simp [val]; omega
    rw [v0, val_be, val_be, val_be, val_be, Nat.mod_eq_of_lt (by omega), Nat.mod_eq_of_lt (by omega), Nat.mod_eq_of_lt (by omega), Nat.mod_eq_of_lt (by omega)]
    simp
  unfold laneGet
  rw [hr]
  exact if_pos ⟨by rw [hp], rfl, rfl⟩
end Go.Proofs.Ytgbjhlkjceonpaa.Help
