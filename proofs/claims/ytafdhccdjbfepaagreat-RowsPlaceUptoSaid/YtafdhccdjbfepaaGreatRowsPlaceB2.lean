/- Contracts of the functions that RowsPlace reaches: part 2 of 7. -/
import Derived.Test.YtafdhccdjbfepaaGreatRowsPlaceB1
import Derived.Deep.DeepCutAuto
/- The walk of the document's Valid. -/
namespace Go.Proofs.YtafdhccdjbfepaaGreat.Pfx
open Go.RowKit Go.Proofs.YtafdhccdjbfepaaGreat.K Go.Proofs.YtafdhccdjbfepaaGreat.Help
set_option linter.unusedVariables false

theorem mod_bits (x m : Nat) : x % 2 ^ m = 0 ↔ ∀ j, j < m → x.testBit j = false := by
  constructor
  · intro h j hj
    have := Nat.testBit_mod_two_pow x m j
    rw [h, Nat.zero_testBit] at this
    simpa [hj] using this.symm
  · intro h
    apply Nat.eq_of_testBit_eq
    intro j
    rw [Nat.testBit_mod_two_pow, Nat.zero_testBit]
    by_cases hj : j < m
    · simp [h j hj]
    · simp [hj]
theorem x6_mod (hi lo n : Nat) (hl : lo < 18446744073709551616) (hn : n ≤ 128) : (hi * 18446744073709551616 + lo) % 2 ^ (128 - n) = 0 ↔ (hi % 2 ^ (64 - min n 64) = 0 ∧ lo % 2 ^ (128 - max n 64) = 0) := by
  have hB : (2 : Nat) ^ 64 = 18446744073709551616 := by decide
  by_cases h : n ≤ 64
  · rw [show 64 - min n 64 = 64 - n by omega, show 128 - max n 64 = 64 by omega, show 128 - n = 64 + (64 - n) by omega, Nat.pow_add, hB, Nat.mod_mul]
    have e1 : (hi * 18446744073709551616 + lo) % 18446744073709551616 = lo := by omega
    have e2 : (hi * 18446744073709551616 + lo) / 18446744073709551616 = hi := by omega
    rw [e1, e2, Nat.mod_eq_of_lt hl]
    omega
  · obtain ⟨k, hk⟩ : ∃ k, 128 - n = k := ⟨_, rfl⟩
    have hp : (18446744073709551616 : Nat) = 2 ^ (64 - k) * 2 ^ k := by
      rw [← Nat.pow_add, show 64 - k + k = 64 by omega]
    rw [show 64 - min n 64 = 0 by omega, show 128 - max n 64 = k by omega, hk, hp, ← Nat.mul_assoc, Nat.add_comm, Nat.add_mul_mod_self_right]
    simp [Nat.mod_one]
/-- a prefix: its address has no bit behind the first ones -/
theorem pvB_bits (fam : Int) (hi lo n : Nat) (hl : lo < 18446744073709551616) (hv : vaB fam hi lo = true) (hn : n ≤ pw fam) :
    pvB fam hi lo n = true ↔ ∀ i, n ≤ i → i < pw fam → abit fam hi lo i = false := by
  have key : pvB fam hi lo n = true ↔ xNum fam hi lo % 2 ^ (pw fam - n) = 0 := by
    unfold pvB
    rw [hv]
    have hd := of_decide_eq_true hv
    rcases hd with rfl | ⟨rfl, rfl, _⟩
    · have hp : pw 6 = 128 := rfl
      have e1 : xNum 6 hi lo = hi * 18446744073709551616 + lo := if_neg (by decide)
      rw [e1, hp, x6_mod hi lo n hl (by omega), if_neg (by decide)]
      have h2 : ((n : Int)).toNat = n := by omega
      rw [h2]
      have h0 : (0 : Int) ≤ (n : Int) := by omega
      have h1 : (n : Int) ≤ ((128 : Nat) : Int) := by omega
      simp [h0]
      omega
    · have hp : pw 4 = 32 := rfl
      have e1 : xNum 4 0 lo = lo := if_pos rfl
      rw [e1, hp, if_pos rfl]
      have h2 : ((n : Int)).toNat = n := by omega
      rw [h2]
      simp
      omega
  rw [key, mod_bits]
  constructor
  · intro h i h1 h2
    have := h (pw fam - 1 - i) (by omega)
    unfold abit
    rwa [Nat.testBit_eq_decide_div_mod_eq] at this
  · intro h j hj
    have := h (pw fam - 1 - j) (by omega) (by omega)
    unfold abit at this
    rw [show pw fam - 1 - (pw fam - 1 - j) = j by omega] at this
    rwa [Nat.testBit_eq_decide_div_mod_eq]
set_option maxRecDepth 100000 in
set_option maxHeartbeats 1000000 in
theorem refValid_any (fam : Int) (hi lo : Nat) (bits : Int) (w : World) (hh : hi < 18446744073709551616) (hl : lo < 18446744073709551616) :
    Calls Tryz.prog 107 #[.agg #[.int .i64 fam, .int .u64 (hi : Int), .int .u64 (lo : Int), .int .i64 bits]] w (Pure w (.bool (pvB fam hi lo bits))) := by
  have V := Lib.hid (fun w => refValidAddr_any fam hi lo w)
  have WD := Lib.hid (fun w => refBits_any fam w)
  have H0 := Lib.hid (Box.start 110 w #[.int .i64 fam, .int .u64 (hi : Int), .int .u64 (lo : Int), .int .i64 bits])
  rcases pvB_cases fam hi lo bits with ⟨hv, e⟩ | ⟨hv, h1, e⟩ | ⟨hv, h1, h2, e⟩ | ⟨hv, n, rfl, hn, -⟩
  · rw [e]
    rw [hv] at V
    clear e hv
    generalize pw fam = N at *
    go_enter Tryz.func107, Tryz.ntmps107
    go_wp2_with fail
    refine (V.out _).mono ?_
    rintro e w1 ⟨rfl, hb1⟩
    have h1 := H0.out.step hb1
    have a0 : w1.cell? ⟨w.heap.size, 0, none⟩ = some (.int .i64 fam) := h1.cell 0
    have H1 := Lib.hid h1.below
    clear hb1 h1
    go_wp2_with (go_at_call 117; refine (WD.out _).mono ?_; rintro e w' ⟨rfl, rfl⟩)
    go_ret
    exact ⟨rfl, H1.out⟩
  · rw [e]
    rw [hv] at V
    have h2 : decide (bits < 0) = true := decide_eq_true (by have := of_decide_eq_false h1; omega)
    clear e hv
    generalize pw fam = N at *
    go_enter Tryz.func107, Tryz.ntmps107
    go_wp2_with fail
    refine (V.out _).mono ?_
    rintro e w1 ⟨rfl, hb1⟩
    have h1 := H0.out.step hb1
    have a0 : w1.cell? ⟨w.heap.size, 0, none⟩ = some (.int .i64 fam) := h1.cell 0
    have a3 : w1.cell? ⟨w.heap.size, 3, none⟩ = some (.int .i64 bits) := h1.cell 3
    have H1 := Lib.hid h1.below
    clear hb1 h1
    go_wp2_with (go_at_call 117; refine (WD.out _).mono ?_; rintro e w' ⟨rfl, rfl⟩)
    go_ret
    exact ⟨rfl, H1.out⟩
  · rw [e]
    rw [hv] at V
    have h3 : decide (bits < 0) = false := decide_eq_false (by have := of_decide_eq_true h1; omega)
    have h4 : decide ((pw fam : Int) < bits) = true := decide_eq_true (by have := of_decide_eq_false h2; omega)
    clear e hv
    generalize pw fam = N at *
    go_enter Tryz.func107, Tryz.ntmps107
    go_wp2_with fail
    refine (V.out _).mono ?_
    rintro e w1 ⟨rfl, hb1⟩
    have h1 := H0.out.step hb1
    have a0 : w1.cell? ⟨w.heap.size, 0, none⟩ = some (.int .i64 fam) := h1.cell 0
    have a3 : w1.cell? ⟨w.heap.size, 3, none⟩ = some (.int .i64 bits) := h1.cell 3
    have H1 := Lib.hid h1.below
    clear hb1 h1
    go_wp2_with (go_at_call 117; refine (WD.out _).mono ?_; rintro e w' ⟨rfl, rfl⟩)
    go_ret
    exact ⟨rfl, H1.out⟩
  · have PB := Lib.hid (pvB_bits fam hi lo n hl hv hn)
    have BT := Lib.hid (fun i w h => bit_any fam hi lo i w hh hl hv h)
    rw [hv] at V
    have h3 : decide ((n : Int) < 0) = false := decide_eq_false (by omega)
    have h4 : decide ((pw fam : Int) < (n : Int)) = false := decide_eq_false (by omega)
    have h5 : decide (pw fam < n) = false := decide_eq_false (by omega)
    have hN : pw fam ≤ 128 := by rcases vaB_fam hv with rfl | rfl <;> decide
    generalize pvB fam hi lo n = r at *
    generalize pw fam = N at *
    clear hv
    go_enter Tryz.func107, Tryz.ntmps107
    go_wp2_with fail
    refine (V.out _).mono ?_
    rintro e w1 ⟨rfl, hb1⟩
    have h1 := H0.out.step hb1
    have a0 : w1.cell? ⟨w.heap.size, 0, none⟩ = some (.int .i64 fam) := h1.cell 0
    have a3 : w1.cell? ⟨w.heap.size, 3, none⟩ = some (.int .i64 (n : Int)) := h1.cell 3
    have H1 := Lib.hid h1
    clear hb1 h1
    go_wp2_with (go_at_call 117; refine (WD.out _).mono ?_; rintro e w' ⟨rfl, rfl⟩)
    go_loopg [5] (N - n) (fun gk i wr => ∃ j : Nat, n ≤ j ∧ j ≤ N ∧ gk = N - j ∧ i = .int .i64 (j : Int) ∧ Box 110 w wr #[.int .i64 fam, .int .u64 (hi : Int), .int .u64 (lo : Int), .int .i64 (n : Int)] ∧ Hid (∀ t, n ≤ t → t < j → abit fam hi lo t = false))
    case atStart => exact ⟨n, Nat.le_refl _, hn, rfl, rfl, H1.out, fun t h1 h2 => by omega⟩
    case round =>
      obtain ⟨j, hj1, hj2, rfl, rfl, hB, HA⟩ := hrel
      have b0 : wr.cell? ⟨w.heap.size, 0, none⟩ = some (.int .i64 fam) := hB.cell 0
      have b1 : wr.cell? ⟨w.heap.size, 1, none⟩ = some (.int .u64 (hi : Int)) := hB.cell 1
      have b2 : wr.cell? ⟨w.heap.size, 2, none⟩ = some (.int .u64 (lo : Int)) := hB.cell 2
      have HB := Lib.hid hB
      clear hB a0 a3
      by_cases hlt : j < N
      · have hlt2 : (j : Int) < N := by omega
        have C := Lib.hid (fun w => BT.out j w hlt)
        cases hab : abit fam hi lo j
        · rw [hab] at C
          have HN : Hid (∀ t, n ≤ t → t < j + 1 → abit fam hi lo t = false) := by
            intro t h1 h2
            rcases Nat.lt_or_ge t j with h | h
            · exact HA.out t h1 h
            · rw [show t = j by omega]; exact hab
          clear hab
          go_wp2_with fail
          refine (C.out _).mono ?_
          rintro e w2 ⟨rfl, hb2⟩
          have HB2 := Lib.hid (HB.out.step hb2)
          clear hb2
          go_wp2_with fail
          go_roundg (N - (j + 1))
          case measure => omega
          case rel => exact ⟨j + 1, by omega, by omega, rfl, by go_num, HB2.out, HN⟩
        · rw [hab] at C
          have HR : Hid (r = false) := by
            cases hr : r
            · rfl
            · have := PB.out.1 hr j hj1 hlt; rw [hab] at this; cases this
          clear hab
          go_wp2_with fail
          refine (C.out _).mono ?_
          rintro e w2 ⟨rfl, hb2⟩
          have HB2 := Lib.hid (HB.out.step hb2)
          clear hb2
          go_wp2_with fail
          go_ret
          exact ⟨ret_bool HR.out.symm, HB2.out.below⟩
      · obtain rfl : j = N := by omega
        have HR : Hid (r = true) := PB.out.2 (fun t h1 h2 => HA.out t h1 h2)
        go_wp2_with fail
        go_ret
        exact ⟨ret_bool HR.out.symm, HB.out.below⟩
end Go.Proofs.YtafdhccdjbfepaaGreat.Pfx
/- The walks of the document's PutAddr and Put. -/
namespace Go.Proofs.YtafdhccdjbfepaaGreat.Pfx
open Go.RowKit Go.Proofs.YtafdhccdjbfepaaGreat.K Go.Proofs.YtafdhccdjbfepaaGreat.Help
set_option linter.unusedVariables false

theorem be_app (a b hi lo : Nat) (hl : lo < 256 ^ b) : be (a + b) (hi * 256 ^ b + lo) = be a hi ++ be b lo := by
  have hb : ∀ (b x y : Nat), be b (x * 256 ^ b + y) = be b y := by
    intro b
    induction b with
    | zero => intro x y; rfl
    | succ n ih =>
      intro x y
      simp only [be]
      have h1 : x * 256 ^ (n + 1) = x * 256 * 256 ^ n := by rw [Nat.pow_succ, Nat.mul_assoc, Nat.mul_comm 256]
      have h2 : 2 ^ (8 * n) = 256 ^ n := by rw [Nat.pow_mul]
      rw [h1, ih (x * 256) y, h2]
      congr 1
      rw [Nat.add_comm, Nat.add_mul_div_right _ _ (Nat.pow_pos (by omega))]
      apply UInt8.toNat_inj.1
      simp
  induction a with
  | zero => rw [Nat.zero_add, hb]; rfl
  | succ n ih =>
    rw [show n + 1 + b = (n + b) + 1 by omega]
    simp only [be, ih, List.cons_append]
    congr 2
    have h2 : 2 ^ (8 * (n + b)) = 256 ^ b * 2 ^ (8 * n) := by rw [Nat.pow_mul, Nat.pow_mul, Nat.pow_add, Nat.mul_comm]
    rw [h2, ← Nat.div_div_eq_div_mul, Nat.add_comm, Nat.add_mul_div_right _ _ (Nat.pow_pos (by omega)), Nat.div_eq_of_lt hl, Nat.zero_add]
theorem paBytes_be (fam : Int) (hi lo : Nat) (hl : lo < 18446744073709551616) (hv : vaB fam hi lo = true) : be (pw fam / 8) (xNum fam hi lo) = paBytes fam hi lo := by
  rcases vaB_fam hv with rfl | rfl
  · rfl
  · have h1 : xNum 6 hi lo = hi * 18446744073709551616 + lo := if_neg (by decide)
    have h2 : paBytes 6 hi lo = be 8 hi ++ be 8 lo := if_neg (by decide)
    have h3 : pw 6 / 8 = 8 + 8 := rfl
    rw [h1, h2, h3]
    exact be_app 8 8 hi lo hl
theorem bit_step (X m k : Nat) : X / 2 ^ m % 2 ^ (k + 1) = 2 * (X / 2 ^ (m + 1) % 2 ^ k) + X / 2 ^ m % 2 := by
  rw [Nat.pow_succ 2 m, ← Nat.div_div_eq_div_mul]
  generalize X / 2 ^ m = y
  rw [Nat.pow_succ, Nat.mul_comm (2 ^ k) 2, Nat.mod_mul]
  omega
/-- PutAddr's memory: the address in a block, the bytes so far -/
structure PaR (w wr : World) (cs : Array Value) (v : Value) (l : List UInt8) : Prop where
  s : wr.heap[w.heap.size]? = some (.cells cs 108 (0, 0))
  o : Own wr (w.heap.size + 1) v l
  below : Below (w.heap.size + 1) (w.alloc (.cells cs 108)) wr
section
variable {w wr w2 : World} {cs : Array Value} {v : Value} {l : List UInt8}
theorem PaR.mk' (o : Own wr (w.heap.size + 1) v l) (b : Below (w.heap.size + 1) (w.alloc (.cells cs 108)) wr) : PaR w wr cs v l := ⟨(b.block w.heap.size (by omega)).trans (blk_new w _), o, b⟩
theorem PaR.size (h : PaR w wr cs v l) : w.heap.size + 1 ≤ wr.heap.size := by have := h.below.size; simp at this; omega
theorem PaR.below0 (h : PaR w wr cs v l) : Below w.heap.size w wr := ((Below.refl w.heap.size w).alloc (Nat.le_refl _) _).trans (h.below.mono (by omega))
theorem PaR.step (h : PaR w wr cs v l) (hb : Below wr.heap.size wr w2) : PaR w w2 cs v l :=
  PaR.mk' (h.o.below hb) (below_then h.below h.size hb)
end
set_option maxRecDepth 100000 in
set_option maxHeartbeats 2000000 in
theorem refPutAddr_any (fam : Int) (hi lo : Nat) (w : World) (hh : hi < 18446744073709551616) (hl : lo < 18446744073709551616) (hv : vaB fam hi lo = true) :
    Calls Tryz.prog 109 #[.agg #[.int .i64 fam, .int .u64 (hi : Int), .int .u64 (lo : Int)]] w (Ret w (paBytes fam hi lo)) := by
  rw [← paBytes_be fam hi lo hl hv]
  have V := Lib.hid (fun w => refValidAddr_any fam hi lo w)
  have WD := Lib.hid (fun w => refBits_any fam w)
  have BT : Hid (∀ (i : Nat) (x : Int) w, x = (i : Int) → i < pw fam → Calls Tryz.prog 130 #[.agg #[.int .i64 fam, .int .u64 (hi : Int), .int .u64 (lo : Int)], .int .i64 x] w (Pure w (.bool (abit fam hi lo i)))) :=
    Lib.hid (fun i x w hx h => by rw [hx]; exact bit_any fam hi lo i w hh hl hv h)
  rw [hv] at V
  have hN : pw fam = 32 ∨ pw fam = 128 := by rcases vaB_fam hv with rfl | rfl; exact .inl rfl; exact .inr rfl
  have AB : Hid (∀ t, abit fam hi lo t = decide (xNum fam hi lo / 2 ^ (pw fam - 1 - t) % 2 = 1)) := fun _ => rfl
  generalize xNum fam hi lo = X at *
  generalize pw fam = N at *
  obtain ⟨M, hNM, hM⟩ : ∃ M, N = 8 * M ∧ M ≤ 16 := ⟨N / 8, by omega, by omega⟩
  rw [show N / 8 = M by omega]
  have HNM := Lib.hid hNM
  have hN128 : N ≤ 128 := by omega
  clear hNM
  have hlen := be_len M X
  have HLN := Lib.hid hlen
  clear hv hN hlen
  go_enter Tryz.func109, Tryz.ntmps109
  go_wp2_with fail
  refine (V.out _).mono ?_
  rintro e w1 ⟨rfl, hb⟩
  have hb2 : Below (w.heap.size + 1) (w.alloc (.cells #[.int .i64 fam, .int .u64 (hi : Int), .int .u64 (lo : Int)] 108)) w1 := by have := hb; simpa using this
  have HB1 := Lib.hid hb2
  clear hb hb2
  go_wp2_with fail
  go_loopg [4, 5] M (fun gk v i wr => ∃ j : Nat, j ≤ M ∧ gk = M - j ∧ i = .int .i64 ((8 * j : Nat) : Int) ∧ PaR w wr #[.int .i64 fam, .int .u64 (hi : Int), .int .u64 (lo : Int)] v ((be M X).take j))
  case atStart => exact ⟨0, by omega, rfl, rfl, PaR.mk' (by simpa using Own.nil w1 _) HB1.out⟩
  case round =>
    obtain ⟨j, hj, rfl, rfl, hS⟩ := hrel
    obtain ⟨VA, vc, rfl, _⟩ := hS.o.bs
    have hlk : ((be M X).take j).length = j := by rw [List.length_take, HLN.out]; omega
    have c0 : wr.cell? ⟨w.heap.size, 0, none⟩ = some (.int .i64 fam) := blk_cell hS.s 0
    have HS := Lib.hid hS
    clear hS
    rw [hlk] at HS
    rw [hlk]
    have HK := Lib.hid hlk
    clear hlk
    generalize hi8 : 8 * j = I at *
    by_cases hlt : j < M
    · have hlt3 : I < N := by have := HNM.out; omega
      have hlt2 : (I : Int) < (N : Int) := by omega
      have HI8 := Lib.hid hi8
      clear hi8
      go_wp2_with (go_at_call 117; refine (WD.out _).mono ?_; rintro e w' ⟨rfl, rfl⟩)
      go_loopg [6, 7] 8 (fun gk2 x k wr2 => ∃ kk : Nat, kk ≤ 8 ∧ gk2 = 8 - kk ∧ k = .int .i64 (kk : Int) ∧ ∃ xx : Nat, x = .int .i64 (xx : Int) ∧ xx < 256 ∧ Hid (xx = X / 2 ^ (N - I - kk) % 2 ^ kk) ∧ PaR w wr2 #[.int .i64 fam, .int .u64 (hi : Int), .int .u64 (lo : Int)] (.slice VA j vc) ((be M X).take j))
      case atStart => exact ⟨0, by omega, rfl, rfl, 0, rfl, by omega, by rw [Hid]; simp [Nat.mod_one], HS.out⟩
      case round =>
        obtain ⟨kk, hkk, rfl, rfl, xx, rfl, hxx, HXX, hS2⟩ := hrel
        have d0 : wr.cell? ⟨w.heap.size, 0, none⟩ = some (.int .i64 fam) := blk_cell hS2.s 0
        have d1 : wr.cell? ⟨w.heap.size, 1, none⟩ = some (.int .u64 (hi : Int)) := blk_cell hS2.s 1
        have d2 : wr.cell? ⟨w.heap.size, 2, none⟩ = some (.int .u64 (lo : Int)) := blk_cell hS2.s 2
        have HS2 := Lib.hid hS2
        clear hS2
        by_cases hlk2 : kk < 8
        · have hlk3 : (kk : Int) < 8 := by omega
          have hIk : I + kk < N := by have := HI8.out; have := HNM.out; omega
          have C := Lib.hid (fun x w h => BT.out (I + kk) x w h hIk)
          have hx128 : xx < 128 := by
            have h1 : xx < 2 ^ kk := by rw [HXX.out]; exact Nat.mod_lt _ (Nat.pow_pos (by omega))
            have h2 : 2 ^ kk ≤ 2 ^ 7 := Nat.pow_le_pow_right (by omega) (by omega)
            omega
          have hst := bit_step X (N - I - (kk + 1)) kk
          rw [show N - I - (kk + 1) + 1 = N - I - kk by omega, ← HXX.out] at hst
          have hab0 := AB.out (I + kk)
          rw [show N - 1 - (I + kk) = N - I - (kk + 1) by omega] at hab0
          cases hab : abit fam hi lo (I + kk)
          · rw [hab] at C hab0
            have HN : Hid (2 * xx = X / 2 ^ (N - I - (kk + 1)) % 2 ^ (kk + 1)) := by
              have := of_decide_eq_false hab0.symm
              rw [Hid, hst]; omega
            clear hab hab0 hst
            go_wp2_with fail
            refine (C.out _ _ (by push_cast; rfl)).mono ?_
            rintro e w2 ⟨rfl, hb2⟩
            have HS3 := Lib.hid (HS2.out.step hb2)
            clear hb2
            go_wp2_with fail
            go_roundg (8 - (kk + 1))
            case measure => omega
            case rel => exact ⟨kk + 1, by omega, rfl, by go_num, 2 * xx, by go_num, by omega, HN, HS3.out⟩
          · rw [hab] at C hab0
            have HN : Hid (2 * xx + 1 = X / 2 ^ (N - I - (kk + 1)) % 2 ^ (kk + 1)) := by
              have := of_decide_eq_true hab0.symm
              rw [Hid, hst]; omega
            clear hab hab0 hst
            go_wp2_with fail
            refine (C.out _ _ (by push_cast; rfl)).mono ?_
            rintro e w2 ⟨rfl, hb2⟩
            have HS3 := Lib.hid (HS2.out.step hb2)
            clear hb2
            go_wp2_with fail
            go_roundg (8 - (kk + 1))
            case measure => omega
            case rel => exact ⟨kk + 1, by omega, rfl, by go_num, 2 * xx + 1, by go_num, by omega, HN, HS3.out⟩
        · obtain rfl : kk = 8 := by omega
          obtain ⟨y, rfl⟩ : ∃ y : UInt8, xx = y.toNat := ⟨UInt8.ofNat xx, by simp; omega⟩
          have HX := Lib.hid (take_snoc8 (l := be M X) (i := j) (by rw [HLN.out]; exact hlt))
          have HG : Hid ((be M X).getD j 0 = y) := by
            rw [Hid, be_get M X j hlt]
            apply UInt8.toNat_inj.1
            rw [HXX.out, show N - I - 8 = 8 * (M - 1 - j) by have := HI8.out; have := HNM.out; omega]
            simp
          clear hlk2
          go_wp2_with (at_builtin; refine push_at (B := w.heap.size + 1) rfl (.tmp 34) (.tmp 37) rfl (.slice VA j vc) ((be M X).take j) y rfl rfl HS2.out.o HS2.out.below HS2.out.size (by rw [HK.out]; omega) ?_; intro A1 c1 w5 hO1 hB1; rw [HK.out] at hO1 ⊢; have HO1 := Lib.hid hO1; have HB5 := Lib.hid hB1; clear hO1 hB1)
          go_roundg (M - (j + 1))
          case measure => omega
          case rel =>
            refine ⟨j + 1, by omega, rfl, ?_, PaR.mk' ?_ HB5.out⟩
            · have := HI8.out; congr 1; omega
            · rw [HX.out, HG.out]; exact HO1.out
    · obtain rfl : j = M := by omega
      have hlt2 : ¬ (I : Int) < (N : Int) := by have := HNM.out; omega
      have hlt3 : ¬ I < N := by omega
      have HI8 := Lib.hid hi8
      clear hi8
      go_wp2_with (go_at_call 117; refine (WD.out _).mono ?_; rintro e w' ⟨rfl, rfl⟩)
      go_ret
      have h := HS.out
      refine ⟨_, rfl, ?_, h.below0⟩
      have ho := h.o.mono (b' := w.heap.size) (by omega)
      rwa [List.take_of_length_le (by rw [HLN.out]; omega)] at ho
end Go.Proofs.YtafdhccdjbfepaaGreat.Pfx
/- The walks of the document's Put and of Reader.Err. -/
namespace Go.Proofs.YtafdhccdjbfepaaGreat.Pfx
open Go.RowKit Go.Proofs.YtafdhccdjbfepaaGreat.K Go.Proofs.YtafdhccdjbfepaaGreat.Help
set_option linter.unusedVariables false

set_option maxRecDepth 100000 in
set_option maxHeartbeats 1000000 in
theorem refPut_any (fam : Int) (hi lo : Nat) (bits : Int) (w : World) (hh : hi < 18446744073709551616) (hl : lo < 18446744073709551616) :
    Calls Tryz.prog 66 #[.agg #[.int .i64 fam, .int .u64 (hi : Int), .int .u64 (lo : Int), .int .i64 bits]] w (Ret w (pfBytes fam hi lo bits)) := by
  have V := Lib.hid (fun w => refValid_any fam hi lo bits w hh hl)
  have H0 := Lib.hid (Box.start 110 w #[.int .i64 fam, .int .u64 (hi : Int), .int .u64 (lo : Int), .int .i64 bits])
  unfold pfBytes
  cases hv : pvB fam hi lo bits
  · rw [hv] at V
    rw [if_neg (by simp)]
    clear hv
    go_enter Tryz.func66, Tryz.ntmps66
    go_wp2_with fail
    refine (V.out _).mono ?_
    rintro e w1 ⟨rfl, hb1⟩
    have H1 := Lib.hid (H0.out.step hb1)
    clear hb1
    go_wp2_with fail
    go_ret
    exact ⟨_, rfl, Own.nil _ _, H1.out.below⟩
  · rw [hv] at V
    rw [if_pos rfl]
    obtain ⟨hva, h0, h1, hf⟩ := pvB_spec hv
    obtain ⟨bt, rfl⟩ : ∃ n : Nat, bits = n := ⟨bits.toNat, by omega⟩
    have PA := Lib.hid (fun w => refPutAddr_any fam hi lo w hh hl hva)
    obtain ⟨pl1, pl2⟩ := paBytes_len (fam := fam) (hi := hi) (lo := lo)
    generalize paBytes fam hi lo = pb at *
    have hfb : 0 ≤ fam ∧ fam ≤ 6 := by rcases hf with rfl | rfl <;> decide
    have e1 : ((UInt8.ofNat fam.toNat).toNat : Int) = fam := by rcases hf with rfl | rfl <;> rfl
    have e2 : ((UInt8.ofNat bt).toNat : Int) = bt := by simp; omega
    rw [show ((bt : Int)).toNat = bt by omega]
    have BL : Hid (∀ w1 : World, Blk (w1.alloc (.cells #[.int .u8 fam, .int .u8 (bt : Int)] 5)) w1.heap.size [UInt8.ofNat fam.toNat, UInt8.ofNat bt]) := by
      intro w1
      have hc : (#[.int .u8 fam, .int .u8 (bt : Int)] : Array Value) = (u8s [UInt8.ofNat fam.toNat, UInt8.ofNat bt]).toArray := by
        unfold u8s u8
        rw [List.map_cons, List.map_cons, List.map_nil, e1, e2]
      have h := blk_new w1 (.cells #[.int .u8 fam, .int .u8 (bt : Int)] 5)
      unfold Blk
      rw [← hc]
      exact h
    generalize UInt8.ofNat fam.toNat = y1 at *
    generalize UInt8.ofNat bt = y2 at *
    clear hv hva hf e1 e2
    generalize hLL : [y1, y2] ++ pb = LL
    have HLL := Lib.hid hLL
    clear hLL
    obtain ⟨f0, f1⟩ := hfb
    go_enter Tryz.func66, Tryz.ntmps66
    go_wp2_with fail
    refine (V.out _).mono ?_
    rintro e w1 ⟨rfl, hb1⟩
    have h1 := H0.out.step hb1
    have a0 : w1.cell? ⟨w.heap.size, 0, none⟩ = some (.int .i64 fam) := h1.cell 0
    have a1 : w1.cell? ⟨w.heap.size, 1, none⟩ = some (.int .u64 (hi : Int)) := h1.cell 1
    have a2 : w1.cell? ⟨w.heap.size, 2, none⟩ = some (.int .u64 (lo : Int)) := h1.cell 2
    have H1 := Lib.hid h1
    clear hb1 h1
    go_wp2_with fail
    refine (PA.out _).mono ?_
    rintro e w2 ⟨v2, rfl, o2, hb2⟩
    obtain ⟨A2, c2, rfl, s2⟩ := o2.bs
    have h2 := H1.out.step hb2
    have a0 : w2.cell? ⟨w.heap.size, 0, none⟩ = some (.int .i64 fam) := h2.cell 0
    have a3 : w2.cell? ⟨w.heap.size, 3, none⟩ = some (.int .i64 (bt : Int)) := h2.cell 3
    have H2 := Lib.hid h2
    have S2 := Lib.hid (s2.below (below_alloc (Below.refl _ _) (.cells #[.int .u8 fam, .int .u8 (bt : Int)] 5)))
    have OW := Lib.hid ((BL.out w2).own (base := w2.heap.size) (Nat.le_refl _) (by simp))
    clear o2 hb2 s2 h2 a1 a2
    go_wp2_with (at_builtin; refine push_many (B := w2.heap.size) rfl (.tmp 19) (.tmp 20) rfl (.slice (some ⟨w2.heap.size, 0, none⟩) 2 2) [y1, y2] pb A2 c2 rfl rfl OW.out S2.out (by omega) (Below.refl _ _) (by simp) (by simp; omega) ?_; intro A3 c3 w3 o3 _ k3; rw [HLL.out] at o3 ⊢; have H3 := Lib.hid ((H2.out.alloc _).only k3 (fun i hi => by have := H2.out.lt; simp [Value.ownBlock] at hi; omega)); have O3 := Lib.hid (o3.mono (b' := w.heap.size) (by have := H2.out.lt; omega)); clear o3 k3)
    go_ret
    exact ⟨_, rfl, O3.out, H3.out.below⟩
/-- what Err answers -/
theorem err_any (g rb p : Nat) (L : List UInt8) (err : Int) (w : World) (h : Rdr w g rb L p err) :
    Calls Tryz.prog 116 #[.pointer (some ⟨g, 0, none⟩)] w (Quiet (.tuple #[.int .i64 err, .int .i64 (p : Int)]) w) := by
  have c1 := h.c1
  have c2 := h.c2
  clear h
  go_enter Tryz.func116, Tryz.ntmps116
  go_wp2_with fail
  go_quiet (fail)
  go_wp2_with fail
  go_ret2
  exact ⟨_, rfl, rfl⟩
end Go.Proofs.YtafdhccdjbfepaaGreat.Pfx
/- The walks of the document's laneOK and PutLane. -/
namespace Go.Proofs.YtafdhccdjbfepaaGreat.Help
open Go.RowKit Go.Proofs.YtafdhccdjbfepaaGreat.K
set_option linter.unusedVariables false

def laneOkB (d : LaneD) : Bool := decide (laneOk d)
/-- the tests of laneOK, one after another -/
theorem laneOk_cases (d : LaneD) : ∃ s : Bool, stV d.sec d.nano = s ∧ (
    (((d.key.length : Int) == 32) = false ∧ laneOkB d = false) ∨ (((d.key.length : Int) == 32) = true ∧ (d.side == 0) = false ∧ (d.side == 1) = false ∧ laneOkB d = false) ∨
    (((d.key.length : Int) == 32) = true ∧ ((d.side == 0) = true ∨ ((d.side == 0) = false ∧ (d.side == 1) = true)) ∧ (
      (s = false ∧ laneOkB d = false) ∨ (s = true ∧ decide (1 ≤ d.cur) = false ∧ laneOkB d = false) ∨ (s = true ∧ decide (1 ≤ d.cur) = true ∧ decide (d.cur ≤ 2147483647) = false ∧ laneOkB d = false) ∨
      (s = true ∧ decide (1 ≤ d.cur) = true ∧ decide (d.cur ≤ 2147483647) = true ∧ decide (0 ≤ d.next) = false ∧ laneOkB d = false) ∨
      (s = true ∧ decide (1 ≤ d.cur) = true ∧ decide (d.cur ≤ 2147483647) = true ∧ decide (0 ≤ d.next) = true ∧ decide (d.next ≤ 2147483647) = laneOkB d)))) := by
  refine ⟨_, rfl, ?_⟩
  by_cases h1 : d.key.length = 32
  · have e1 : ((d.key.length : Int) == 32) = true := by rw [beq_iff_eq]; omega
    by_cases h2 : d.side = 0 ∨ d.side = 1
    · refine .inr (.inr ⟨e1, ?_, ?_⟩)
      · rcases h2 with h2 | h2
        · exact .inl (by rw [h2]; rfl)
        · exact .inr ⟨by rw [h2]; rfl, by rw [h2]; rfl⟩
      · cases hs : stV d.sec d.nano
        · exact .inl ⟨rfl, decide_eq_false (fun h => by have := h.2.2.2.2.2.2; rw [hs] at this; cases this)⟩
        · by_cases h3 : 1 ≤ d.cur
          · by_cases h4 : d.cur ≤ 2147483647
            · by_cases h5 : 0 ≤ d.next
              · refine .inr (.inr (.inr (.inr ⟨rfl, decide_eq_true h3, decide_eq_true h4, decide_eq_true h5, ?_⟩)))
                unfold laneOkB
                by_cases h6 : d.next ≤ 2147483647
                · rw [decide_eq_true h6, decide_eq_true ⟨h1, h2, h3, h4, h5, h6, hs⟩]
                · rw [decide_eq_false h6, decide_eq_false (fun h => h6 h.2.2.2.2.2.1)]
              · exact .inr (.inr (.inr (.inl ⟨rfl, decide_eq_true h3, decide_eq_true h4, decide_eq_false h5, decide_eq_false (fun h => h5 h.2.2.2.2.1)⟩)))
            · exact .inr (.inr (.inl ⟨rfl, decide_eq_true h3, decide_eq_false h4, decide_eq_false (fun h => h4 h.2.2.2.1)⟩))
          · exact .inr (.inl ⟨rfl, decide_eq_false h3, decide_eq_false (fun h => h3 h.2.2.1)⟩)
    · exact .inr (.inl ⟨e1, by rw [beq_eq_false_iff_ne]; exact fun e => h2 (.inl e), by rw [beq_eq_false_iff_ne]; exact fun e => h2 (.inr e), decide_eq_false (fun h => h2 h.2.1)⟩)
  · exact .inl ⟨by rw [beq_eq_false_iff_ne]; omega, decide_eq_false (fun h => h1 h.1)⟩

set_option maxRecDepth 100000 in
set_option maxHeartbeats 1000000 in
theorem refLaneOK (A : Option Addr) (c : Nat) (d : LaneD) (w : World) :
    Calls Tryz.prog 67 #[laneV A c d] w (Pure w (.bool (laneOkB d))) := by
  obtain ⟨s, hs, hcs⟩ := laneOk_cases d
  generalize hr : laneOkB d = r at *
  obtain ⟨key, side, cur, next, sc, ceil, sec, nano⟩ := d
  unfold laneV
  dsimp only at *
  have V := Lib.hid (fun w => refValid sec nano w)
  have H0 := Lib.hid (fun cs => Box.start 43 w cs)
  rw [hs] at V
  clear hs hr
  generalize key.length = n at *
  rcases hcs with ⟨q1, rfl⟩ | ⟨q1, q2, q3, rfl⟩ | ⟨q1, q2, h⟩
  · cases s
    all_goals
      go_enter Tryz.func67, Tryz.ntmps67
      go_wp2_with fail
      refine (V.out _).mono ?_
      rintro e w1 ⟨rfl, hb1⟩
      have h1 := (H0.out _).step hb1
      have a0 : w1.cell? ⟨w.heap.size, 0, none⟩ = some (.slice A n c) := h1.cell 0
      have HB := Lib.hid h1.below
      clear h1 hb1
      go_wp2_with fail
      go_ret
      exact ⟨rfl, HB.out⟩
  · cases s
    all_goals
      go_enter Tryz.func67, Tryz.ntmps67
      go_wp2_with fail
      refine (V.out _).mono ?_
      rintro e w1 ⟨rfl, hb1⟩
      have h1 := (H0.out _).step hb1
      have a0 : w1.cell? ⟨w.heap.size, 0, none⟩ = some (.slice A n c) := h1.cell 0
      have a1 : w1.cell? ⟨w.heap.size, 1, none⟩ = some (.int .i64 side) := h1.cell 1
      have HB := Lib.hid h1.below
      clear h1 hb1
      go_wp2_with fail
      go_ret
      exact ⟨rfl, HB.out⟩
  · rcases h with ⟨rfl, rfl⟩ | ⟨rfl, q3, rfl⟩ | ⟨rfl, q3, q4, rfl⟩ | ⟨rfl, q3, q4, q5, rfl⟩ | ⟨rfl, q3, q4, q5, q6⟩
    all_goals
      rcases q2 with q2 | ⟨q2, q2'⟩
      all_goals
        go_enter Tryz.func67, Tryz.ntmps67
        go_wp2_with fail
        refine (V.out _).mono ?_
        rintro e w1 ⟨rfl, hb1⟩
        have h1 := (H0.out _).step hb1
        have a0 : w1.cell? ⟨w.heap.size, 0, none⟩ = some (.slice A n c) := h1.cell 0
        have a1 : w1.cell? ⟨w.heap.size, 1, none⟩ = some (.int .i64 side) := h1.cell 1
        have a2 : w1.cell? ⟨w.heap.size, 2, none⟩ = some (.int .i64 cur) := h1.cell 2
        have a3 : w1.cell? ⟨w.heap.size, 3, none⟩ = some (.int .i64 next) := h1.cell 3
        have HB := Lib.hid h1.below
        clear h1 hb1
        go_wp2_with fail
        go_ret
        exact ⟨by first | rfl | (rw [← q6]; rfl), HB.out⟩
end Go.Proofs.YtafdhccdjbfepaaGreat.Help
/- The walk of the document's PutLane. -/
namespace Go.Proofs.YtafdhccdjbfepaaGreat.Help
open Go.RowKit Go.Proofs.YtafdhccdjbfepaaGreat.K
set_option linter.unusedVariables false

set_option maxRecDepth 100000 in
set_option maxHeartbeats 1000000 in
theorem refPutLane_any (A : Option Addr) (c : Nat) (d : LaneD) (w : World) (hs : Bs w A c d.key) (hd : LaneB d) :
    Calls Tryz.prog 29 #[laneV A c d] w (RowRet w (putLane d).1 (putLane d).2.1 (putLane d).2.2) := by
  have V := Lib.hid (fun w => refLaneOK A c d w)
  by_cases hok : laneOk d
  · have e1 : laneOkB d = true := decide_eq_true hok
    rw [e1] at V
    clear e1
    obtain ⟨key, side, cur, next, sc, ceil, sec, nano⟩ := d
    unfold laneV at *
    obtain ⟨b1, b2, b3⟩ := hd
    dsimp only at *
    obtain ⟨g1, g2, g3, g4, g5, g6, hv⟩ := hok
    dsimp only at *
    obtain ⟨cu, rfl⟩ : ∃ n : Nat, cur = n := ⟨cur.toNat, by omega⟩
    obtain ⟨ne, rfl⟩ : ∃ n : Nat, next = n := ⟨next.toNat, by omega⟩
    have hst : 0 ≤ sec ∧ 0 ≤ nano ∧ nano ≤ 999999999 := by unfold stV at hv; simp at hv; omega
    obtain ⟨se, rfl⟩ : ∃ n : Nat, sec = n := ⟨sec.toNat, by omega⟩
    obtain ⟨na, rfl⟩ : ∃ n : Nat, nano = n := ⟨nano.toNat, by omega⟩
    obtain ⟨sd, rfl, hsd⟩ : ∃ n : Nat, side = n ∧ (n = 0 ∨ n = 1) := ⟨side.toNat, by omega, by omega⟩
    rw [putLane_yes ⟨g1, by simpa using g2, g3, g4, g5, g6, hv⟩]
    have T := Lib.hid (fun w => refPut_yes se na w (by omega) (by omega))
    have H0 := Lib.hid (LnS.start 43 w #[.slice A key.length c, .int .i64 sd, .int .i64 cu, .int .i64 ne, .int .u64 (sc : Int), .int .u64 (ceil : Int), .int .i64 se, .int .i64 na])
    have HS := Lib.hid hs
    have HL := Lib.hid g1
    have hmx := hs.max
    clear hs hv hst g1 b3
    have BL : Hid (∀ w1 : World, Blk (w1.alloc (.cells #[.int .u8 (sd : Int)] 5)) w1.heap.size [UInt8.ofNat sd]) := by
      intro w1
      have h := blk_new w1 (.cells #[.int .u8 (sd : Int)] 5)
      rcases hsd with rfl | rfl <;> exact h
    have e1 : (sd : Int).toNat = sd := by omega
    have e2 : (cu : Int).toNat = cu := by omega
    have e3 : (ne : Int).toNat = ne := by omega
    have e4 : (se : Int).toNat = se := by omega
    have e5 : (na : Int).toNat = na := by omega
    dsimp only
    rw [e1, e2, e3, e4, e5]
    have hsd1 : sd ≤ 1 := by omega
    clear e1 e2 e3 e4 e5 hsd g2
    generalize hVV : laneVal sd cu ne sc ceil se na = VV
    generalize hKK : [76] ++ key = KK
    have HV := Lib.hid hVV
    have HK := Lib.hid hKK
    clear hVV hKK
    unfold laneVal at HV
    generalize UInt8.ofNat sd = y at *
    go_enter Tryz.func29, Tryz.ntmps29
    go_wp2_with fail
    refine (V.out _).mono ?_
    rintro e w1 ⟨rfl, hb1⟩
    have h1 := H0.out.step hb1
    have h2 := h1.alloc (.cells #[.int .u8 76] 5)
    have a0 : w1.cell? ⟨w.heap.size, 0, none⟩ = some (.slice A key.length c) := h1.cell 0
    have a1 : (w1.alloc (.cells #[.int .u8 76] 5)).cell? ⟨w.heap.size, 0, none⟩ = some (.slice A key.length c) := h2.cell 0
    have H2 := Lib.hid h2
    have OW : Hid (Own (w1.alloc (.cells #[.int .u8 76] 5)) w1.heap.size (.slice (some ⟨w1.heap.size, 0, none⟩) 1 1) [76]) :=
      (show Blk (w1.alloc (.cells #[.int .u8 76] 5)) w1.heap.size [76] from blk_new _ _).own (Nat.le_refl _) (by decide)
    have Z1 := Lib.hid h1.lt
    clear h1 h2 hb1
    go_wp2_with (at_builtin; refine push_many (B := w1.heap.size) rfl (.tmp 10) (.tmp 12) rfl (.slice (some ⟨w1.heap.size, 0, none⟩) 1 1) [76] key A c rfl rfl OW.out (H2.out.bs HS.out) (by rw [HL.out]; omega) (Below.refl _ _) (by simp) (by rw [HL.out]; decide) ?_; intro A2 c2 w2 o2 _ k2; rw [HK.out] at o2 ⊢; have Z2 := Lib.hid (show w1.heap.size < w2.heap.size from Nat.lt_of_lt_of_le (by simp) k2.size); have h3 := H2.out.only k2 (fun i hi => by have := Z1.out; simp [Value.ownBlock] at hi; omega); have a2 : w2.cell? ⟨w.heap.size, 1, none⟩ = some (.int .i64 sd) := h3.cell 1; have h4 := h3.alloc (.cells #[.int .u8 (sd : Int)] 5); have a3 : (w2.alloc (.cells #[.int .u8 (sd : Int)] 5)).cell? ⟨w.heap.size, 2, none⟩ = some (.int .i64 cu) := h4.cell 2; have H4 := Lib.hid h4; have KL := Lib.hid (fun i hi => Own.blk_lt o2 (i := i) hi); have KB := Lib.hid (fun i hi => Own.base_le o2 (i := i) hi); have K4 := Lib.hid (o2.below (below_alloc (Below.refl _ _) (.cells #[.int .u8 (sd : Int)] 5))); have V4 := Lib.hid ((BL.out w2).own (Nat.le_refl _) (by simp)); have Z3 := Lib.hid h3.lt; clear h3 h4 o2 k2 a0 a1)
    refine (number cu 4 _ (by omega) (by omega)).mono ?_
    rintro e u5 ⟨v5, rfl, o5, hb5⟩
    obtain ⟨B5, d5, rfl, s5⟩ := o5.bs
    have HH5 := Lib.hid (H4.out.step hb5)
    have VV5 := Lib.hid (V4.out.below hb5)
    have KK5 := Lib.hid (K4.out.below hb5)
    have S5 := Lib.hid s5
    have X5 := Lib.hid (Nat.le_trans (Nat.le_of_lt (blk_lt (BL.out w2))) hb5.size)
    have ML5 : (be 4 cu).length = 4 := by simp [be_len]
    have MM5 := Lib.hid ML5
    clear ML5 s5 hb5 o5
    go_wp2_with (at_builtin; refine push_many (B := w2.heap.size) rfl (.tmp 18) (.tmp 22) rfl (.slice (some ⟨w2.heap.size, 0, none⟩) 1 1) [y] (be 4 cu) B5 d5 rfl rfl VV5.out S5.out (by rw [MM5.out]; omega) (Below.refl _ _) X5.out (by rw [MM5.out]; have := List.length_singleton (a := y); omega) ?_; intro A5 c5 w5 o5 _ k5; have NL5 : ([y] ++ be 4 cu).length ≤ 5 := (by simp [be_len]); generalize [y] ++ be 4 cu = l5 at *; have h5 := HH5.out.only k5 (fun i hi => by have := Z3.out; have := VV5.out.base_le hi; omega); have a5 : w5.cell? ⟨w.heap.size, 3, none⟩ = some (.int .i64 ne) := h5.cell 3; have H5 := Lib.hid h5; have V5 := Lib.hid o5; have K5 := Lib.hid (KK5.out.only k5 (fun i hi e => by have := KL.out i hi; have := VV5.out.base_le e; omega)); have Y5 := Lib.hid (Nat.le_trans X5.out k5.size); clear h5 o5 k5)
    refine (number ne 4 _ (by omega) (by omega)).mono ?_
    rintro e u6 ⟨v6, rfl, o6, hb6⟩
    obtain ⟨B6, d6, rfl, s6⟩ := o6.bs
    have HH6 := Lib.hid (H5.out.step hb6)
    have VV6 := Lib.hid (V5.out.below hb6)
    have KK6 := Lib.hid (K5.out.below hb6)
    have S6 := Lib.hid s6
    have X6 := Lib.hid (Nat.le_trans Y5.out hb6.size)
    have ML6 : (be 4 ne).length = 4 := by simp [be_len]
    have MM6 := Lib.hid ML6
    clear ML6 s6 hb6 o6
    go_wp2_with (at_builtin; refine push_many (B := w2.heap.size) rfl (.tmp 24) (.tmp 28) rfl (.slice A5 l5.length c5) l5 (be 4 ne) B6 d6 rfl rfl VV6.out S6.out (by rw [MM6.out]; omega) (Below.refl _ _) X6.out (by rw [MM6.out]; omega) ?_; intro A6 c6 w6 o6 _ k6; have NL6 : (l5 ++ be 4 ne).length ≤ 9 := (by have := NL5; simp [be_len]; omega); generalize l5 ++ be 4 ne = l6 at *; have h6 := HH6.out.only k6 (fun i hi => by have := Z3.out; have := VV6.out.base_le hi; omega); have a6 : w6.cell? ⟨w.heap.size, 4, none⟩ = some (.int .u64 (sc : Int)) := h6.cell 4; have H6 := Lib.hid h6; have V6 := Lib.hid o6; have K6 := Lib.hid (KK6.out.only k6 (fun i hi e => by have := KL.out i hi; have := VV6.out.base_le e; omega)); have Y6 := Lib.hid (Nat.le_trans X6.out k6.size); clear h6 o6 k6)
    refine (number sc 8 _ (by omega) (by omega)).mono ?_
    rintro e u7 ⟨v7, rfl, o7, hb7⟩
    obtain ⟨B7, d7, rfl, s7⟩ := o7.bs
    have HH7 := Lib.hid (H6.out.step hb7)
    have VV7 := Lib.hid (V6.out.below hb7)
    have KK7 := Lib.hid (K6.out.below hb7)
    have S7 := Lib.hid s7
    have X7 := Lib.hid (Nat.le_trans Y6.out hb7.size)
    have ML7 : (be 8 sc).length = 8 := by simp [be_len]
    have MM7 := Lib.hid ML7
    clear ML7 s7 hb7 o7
    go_wp2_with (at_builtin; refine push_many (B := w2.heap.size) rfl (.tmp 30) (.tmp 33) rfl (.slice A6 l6.length c6) l6 (be 8 sc) B7 d7 rfl rfl VV7.out S7.out (by rw [MM7.out]; omega) (Below.refl _ _) X7.out (by rw [MM7.out]; omega) ?_; intro A7 c7 w7 o7 _ k7; have NL7 : (l6 ++ be 8 sc).length ≤ 17 := (by have := NL6; simp [be_len]; omega); generalize l6 ++ be 8 sc = l7 at *; have h7 := HH7.out.only k7 (fun i hi => by have := Z3.out; have := VV7.out.base_le hi; omega); have a7 : w7.cell? ⟨w.heap.size, 5, none⟩ = some (.int .u64 (ceil : Int)) := h7.cell 5; have H7 := Lib.hid h7; have V7 := Lib.hid o7; have K7 := Lib.hid (KK7.out.only k7 (fun i hi e => by have := KL.out i hi; have := VV7.out.base_le e; omega)); have Y7 := Lib.hid (Nat.le_trans X7.out k7.size); clear h7 o7 k7)
    refine (number ceil 8 _ (by omega) (by omega)).mono ?_
    rintro e u8 ⟨v8, rfl, o8, hb8⟩
    obtain ⟨B8, d8, rfl, s8⟩ := o8.bs
    have HH8 := Lib.hid (H7.out.step hb8)
    have VV8 := Lib.hid (V7.out.below hb8)
    have KK8 := Lib.hid (K7.out.below hb8)
    have S8 := Lib.hid s8
    have X8 := Lib.hid (Nat.le_trans Y7.out hb8.size)
    have ML8 : (be 8 ceil).length = 8 := by simp [be_len]
    have MM8 := Lib.hid ML8
    clear ML8 s8 hb8 o8
    go_wp2_with (at_builtin; refine push_many (B := w2.heap.size) rfl (.tmp 35) (.tmp 38) rfl (.slice A7 l7.length c7) l7 (be 8 ceil) B8 d8 rfl rfl VV8.out S8.out (by rw [MM8.out]; omega) (Below.refl _ _) X8.out (by rw [MM8.out]; omega) ?_; intro A8 c8 w8 o8 _ k8; have NL8 : (l7 ++ be 8 ceil).length ≤ 25 := (by have := NL7; simp [be_len]; omega); generalize l7 ++ be 8 ceil = l8 at *; have h8 := HH8.out.only k8 (fun i hi => by have := Z3.out; have := VV8.out.base_le hi; omega); have a8 : w8.cell? ⟨w.heap.size, 6, none⟩ = some (.int .i64 se) := h8.cell 6; have a8' : w8.cell? ⟨w.heap.size, 7, none⟩ = some (.int .i64 na) := h8.cell 7; have H8 := Lib.hid h8; have V8 := Lib.hid o8; have K8 := Lib.hid (KK8.out.only k8 (fun i hi e => by have := KL.out i hi; have := VV8.out.base_le e; omega)); have Y8 := Lib.hid (Nat.le_trans X8.out k8.size); clear h8 o8 k8)
    refine (T.out _).mono ?_
    rintro e u9 ⟨v9, rfl, o9, hb9⟩
    obtain ⟨B9, d9, rfl, s9⟩ := o9.bs
    have HH9 := Lib.hid (H8.out.step hb9)
    have VV9 := Lib.hid (V8.out.below hb9)
    have KK9 := Lib.hid (K8.out.below hb9)
    have S9 := Lib.hid s9
    have X9 := Lib.hid (Nat.le_trans Y8.out hb9.size)
    have ML9 : (stPut se na).length = 12 := by simp [be_len, stPut]
    have MM9 := Lib.hid ML9
    clear ML9 s9 hb9 o9
    go_wp2_with (at_builtin; refine push_many (B := w2.heap.size) rfl (.tmp 40) (.tmp 43) rfl (.slice A8 l8.length c8) l8 (stPut se na) B9 d9 rfl rfl VV9.out S9.out (by rw [MM9.out]; omega) (Below.refl _ _) X9.out (by rw [MM9.out]; omega) ?_; intro A9 c9 w9 o9 _ k9; rw [HV.out] at o9 ⊢; have h9 := HH9.out.only k9 (fun i hi => by have := Z3.out; have := VV9.out.base_le hi; omega); have H9 := Lib.hid h9; have V9 := Lib.hid o9; have K9 := Lib.hid (KK9.out.only k9 (fun i hi e => by have := KL.out i hi; have := VV9.out.base_le e; omega)); have Y9 := Lib.hid (Nat.le_trans X9.out k9.size); have r0 : w9.cell? ⟨w.heap.size + 1, 0, none⟩ = some (.slice none 0 0) := blk_cell h9.r 0; have r1 : w9.cell? ⟨w.heap.size + 1, 1, none⟩ = some (.slice none 0 0) := blk_cell h9.r 1; have z0 := blk_free h9.r 0; have z1 := blk_free h9.r 1; have ff := blk_set (blk_set h9.r 0 (.slice A2 KK.length c2)) 1 (.slice A9 VV.length c9); have j0 := Lib.hid ((blk_cell ff 0).trans (b := some (Value.slice A2 KK.length c2)) rfl); have j1 := Lib.hid ((blk_cell ff 1).trans (b := some (Value.slice A9 VV.length c9)) rfl); clear ff; clear h9 o9 k9)
    exact bodyPost_ret (v := .tuple #[.agg #[.slice A2 KK.length c2, .slice A9 VV.length c9], .int .i64 0]) (by simp [results, Tryz.results29, go_sem, j0.out, j1.out]) rfl (row_done1 H9.out (K9.out.mono (by have := Z1.out; omega)) (V9.out.mono (by have := Z3.out; omega)) 0)
  · have e1 : laneOkB d = false := decide_eq_false hok
    rw [e1] at V
    rw [putLane_no hok]
    obtain ⟨key, side, cur, next, sc, ceil, sec, nano⟩ := d
    unfold laneV at *
    dsimp only at *
    have H0 := Lib.hid (fun cs => LnS.start 43 w cs)
    clear e1 hs hd hok
    generalize key.length = n at *
    go_enter Tryz.func29, Tryz.ntmps29
    go_wp2_with fail
    refine (V.out _).mono ?_
    rintro e w1 ⟨rfl, hb1⟩
    have h1 := (H0.out _).step hb1
    have r0 : w1.cell? ⟨w.heap.size + 1, 0, none⟩ = some (.slice none 0 0) := blk_cell h1.r 0
    have r1 : w1.cell? ⟨w.heap.size + 1, 1, none⟩ = some (.slice none 0 0) := blk_cell h1.r 1
    have r2 := blk_free h1.r 0
    have r3 := blk_free h1.r 1
    have f := blk_set (blk_set h1.r 0 (.slice none 0 0)) 1 (.slice none 0 0)
    have f0 := Lib.hid ((blk_cell f 0).trans (b := some (Value.slice none 0 0)) rfl)
    have f1 := Lib.hid ((blk_cell f 1).trans (b := some (Value.slice none 0 0)) rfl)
    have HB1 := Lib.hid (row_done0 h1)
    clear hb1 h1 f
    go_wp2_with fail
    exact bodyPost_ret (v := .tuple #[.agg #[.slice none 0 0, .slice none 0 0], .int .i64 114]) (by simp [results, Tryz.results29, go_sem, f0.out, f1.out]) rfl ⟨_, _, rfl, Own.nil _ _, Own.nil _ _, HB1.out⟩
end Go.Proofs.YtafdhccdjbfepaaGreat.Help
/- The walk of GetLane$1: what the two readers of a row tell of a lane. -/
namespace Go.Proofs.YtafdhccdjbfepaaGreat.Help
open Go.RowKit Go.Proofs.YtafdhccdjbfepaaGreat.K
set_option linter.unusedVariables false

/-- no cell of block g is a byte -/
def NoU8 (w : World) (g : Nat) : Prop := ∀ (j : Nat) (b : Int), w.cell? ⟨g, j, none⟩ ≠ some (.int .u8 b)
theorem cell_spot {w : World} {ad : Addr} {v : Value} (h : w.cell? ad = some v) : ad = ⟨ad.block, ad.off, none⟩ := by
  obtain ⟨b, o, s⟩ := ad
  cases s with
  | none => rfl
  | some x =>
    exfalso
    simp only [World.cell?] at h
    split at h
    · simp at h
    · cases h
theorem cell_blk {w w' : World} {ad : Addr} (h : w'.heap[ad.block]? = w.heap[ad.block]?) : w'.cell? ad = w.cell? ad := by
  simp only [World.cell?, h]
theorem bs_only {w w' : World} {A : Option Addr} {c : Nat} {l : List UInt8} {T : Nat → Prop} (h : Bs w A c l) (k : Only w w' T) (hT : ∀ i, T i → i < w.heap.size → NoU8 w i) : Bs w' A c l :=
  ⟨h.le, h.max, fun i hi => by
    obtain ⟨ad, e, hlt, hc⟩ := h.at_ i hi
    refine ⟨ad, e, Nat.lt_of_lt_of_le hlt k.size, ?_⟩
    have hb : (ad.add i).block = ad.block := addr_add_block ad i
    refine (cell_blk (k.block _ (by rw [hb]; exact hlt) (fun ht => ?_))).trans hc
    have hs := cell_spot hc
    rw [hs] at hc
    exact hT _ ht (by rw [hb]; exact hlt) _ _ hc⟩
theorem NoU8.of {w : World} {g : Nat} {cs : Array Value} {t : TypeId} {fr : Nat × Nat} (h : w.heap[g]? = some (.cells cs t fr)) (hn : ∀ (j : Nat) (b : Int), cs[j]? ≠ some (.int .u8 b)) : NoU8 w g := by
  intro j b e; rw [blk_cell h] at e; exact hn j b e
theorem noU8_3 (x y z : Value) (hx : ∀ b, x ≠ .int .u8 b) (hy : ∀ b, y ≠ .int .u8 b) (hz : ∀ b, z ≠ .int .u8 b) : ∀ (j : Nat) (b : Int), (#[x, y, z] : Array Value)[j]? ≠ some (.int .u8 b) := by
  intro j b e
  match j with
  | 0 => simp at e; exact hx b e
  | 1 => simp at e; exact hy b e
  | 2 => simp at e; exact hz b e
  | (j + 3) => simp at e
theorem Rdr.noU8 {w : World} {g rb p : Nat} {L : List UInt8} {err : Int} (h : Rdr w g rb L p err) : NoU8 w g :=
  NoU8.of h.b (noU8_3 _ _ _ (by intro b e; cases e) (by intro b e; cases e) (by intro b e; cases e))
/-- a lane's cells -/
def lnC (A : Option Addr) (n c : Nat) (side cur next sc ce se na : Int) : Array Value := #[.slice A n c, .int .i64 side, .int .i64 cur, .int .i64 next, .int .u64 sc, .int .u64 ce, .int .i64 se, .int .i64 na]
theorem lnC_noU8 (A : Option Addr) (n c : Nat) (side cur next sc ce se na : Int) : ∀ (j : Nat) (b : Int), (lnC A n c side cur next sc ce se na)[j]? ≠ some (.int .u8 b) := by
  intro j b e
  unfold lnC at e
  match j with
  | 0 => simp at e
  | 1 => simp at e
  | 2 => simp at e
  | 3 => simp at e
  | 4 => simp at e
  | 5 => simp at e
  | 6 => simp at e
  | 7 => simp at e
  | (j + 8) => simp at e
/-- the memory of GetLane$1: the readers, the answer's box, the lane's box -/
structure GLn (w w' : World) (gk gv rv : Nat) (v : List UInt8) (p : Nat) (er : Int) (A : Option Addr) (c : Nat) (key : List UInt8) (N : Nat) (side cur next sc ce se na : Int) : Prop where
  vr : Rdr w' gv rv v p er
  b : w'.heap[N]? = some (.cells (lnC A key.length c side cur next sc ce se na) 43 (0, 0))
  r : w'.heap[w.heap.size]? = some (.cells (lnC none 0 0 0 0 0 0 0 0 0) 43 (0, 0))
  bs : Bs w' A c key
  only : Only w w' (fun i => i = gk ∨ i = gv)
  hN : w.heap.size < N
  hg : gv < w.heap.size
  hr : rv < w.heap.size
section
variable {w w' w2 : World} {gk gv rv : Nat} {v : List UInt8} {p : Nat} {er : Int} {A : Option Addr} {c : Nat} {key : List UInt8} {N : Nat} {side cur next sc ce se na : Int}
theorem GLn.read {p2 : Nat} {er2 : Int} (h : GLn w w' gk gv rv v p er A c key N side cur next sc ce se na) (hr : Rdr w2 gv rv v p2 er2) (o : Only w' w2 (fun k => k = gv)) : GLn w w2 gk gv rv v p2 er2 A c key N side cur next sc ce se na :=
  ⟨hr, o.blk h.b (by have := h.hN; have := h.hg; omega), o.blk h.r (by have := h.hg; omega), bs_only h.bs o (fun i hi _ => by rw [hi]; exact h.vr.noU8),
    h.only.then_ o (fun i hi => .inl (.inr hi)), h.hN, h.hg, h.hr⟩
theorem GLn.drewN (h : GLn w w' gk gv rv v p er A c key N side cur next sc ce se na) (n : Nat) : GLn w (w'.drewN n) gk gv rv v p er A c key N side cur next sc ce se na :=
  ⟨h.vr.drewN n, h.b, h.r, h.bs.drewN n, h.only.drewN n, h.hN, h.hg, h.hr⟩
theorem GLn.below (h : GLn w w' gk gv rv v p er A c key N side cur next sc ce se na) (hb : Below w'.heap.size w' w2) : GLn w w2 gk gv rv v p er A c key N side cur next sc ce se na :=
  ⟨h.vr.below hb, (hb.block _ (blk_lt h.b)).trans h.b, (hb.block _ (blk_lt h.r)).trans h.r, h.bs.below hb, h.only.then_ (Only.of_below hb (fun _ => False)) (fun i hi => hi.elim), h.hN, h.hg, h.hr⟩
theorem GLn.store (h : GLn w w' gk gv rv v p er A c key N side cur next sc ce se na) (j : Nat) (u : Value) {s1 c1 n1 sc1 ce1 se1 na1 : Int} (e : (lnC A key.length c side cur next sc ce se na).setIfInBounds j u = lnC A key.length c s1 c1 n1 sc1 ce1 se1 na1) :
    GLn w (w'.setCell ⟨N, j, none⟩ u) gk gv rv v p er A c key N s1 c1 n1 sc1 ce1 se1 na1 := by
  have o : Only w' (w'.setCell ⟨N, j, none⟩ u) (fun k => k = N) := (Only.refl w' (fun k => k = N)).setCell (p := ⟨N, j, none⟩) (.inl rfl) u
  have h1 := h.hN
  have h2 := h.hg
  have h3 := h.hr
  refine ⟨h.vr.only o (by omega) (by omega), by rw [← e]; exact blk_set h.b j u, o.blk h.r (by omega), bs_only h.bs o (fun i hi _ => by rw [hi]; exact NoU8.of h.b (lnC_noU8 _ _ _ _ _ _ _ _ _ _)),
    h.only.then_ o (fun i hi => .inr (by omega)), h.hN, h.hg, h.hr⟩
theorem GLn.cell (h : GLn w w' gk gv rv v p er A c key N side cur next sc ce se na) (j : Nat) : w'.cell? ⟨N, j, none⟩ = (lnC A key.length c side cur next sc ce se na)[j]? := blk_cell h.b j
theorem GLn.free (h : GLn w w' gk gv rv v p er A c key N side cur next sc ce se na) (j : Nat) : w'.frozen? ⟨N, j, none⟩ = false := blk_free h.b j
end
/-- a box that is filled cell by cell with no bytes -/
structure RB (w W : World) (T : Nat → Prop) (A : Option Addr) (c : Nat) (key : List UInt8) (R : Nat) (t : TypeId) (cs : Array Value) : Prop where
  r : W.heap[R]? = some (.cells cs t (0, 0))
  nu : ∀ (j : Nat) (b : Int), cs[j]? ≠ some (.int .u8 b)
  bs : Bs W A c key
  only : Only w W T
  hR : w.heap.size ≤ R
theorem RB.set {w W : World} {T : Nat → Prop} {A : Option Addr} {c : Nat} {key : List UInt8} {R : Nat} {t : TypeId} {cs : Array Value} (h : RB w W T A c key R t cs) (j : Nat) (u : Value) (hu : ∀ b, u ≠ .int .u8 b) :
    RB w (W.setCell ⟨R, j, none⟩ u) T A c key R t (cs.setIfInBounds j u) := by
  have o : Only W (W.setCell ⟨R, j, none⟩ u) (fun k => k = R) := (Only.refl W (fun k => k = R)).setCell (p := ⟨R, j, none⟩) (.inl rfl) u
  refine ⟨blk_set h.r j u, ?_, bs_only h.bs o (fun i hi _ => by rw [hi]; exact NoU8.of h.r h.nu), h.only.then_ o (fun i hi => .inr (by rw [hi]; exact h.hR)), h.hR⟩
  intro i b e
  rw [Array.getElem?_setIfInBounds] at e
  split at e
  · split at e
    · injection e with e; exact hu b e
    · cases e
  · exact h.nu i b e
theorem GLn.rb {w w' : World} {gk gv rv : Nat} {v : List UInt8} {p : Nat} {er : Int} {A : Option Addr} {c : Nat} {key : List UInt8} {N : Nat} {side cur next sc ce se na : Int} (h : GLn w w' gk gv rv v p er A c key N side cur next sc ce se na) :
    RB w w' (fun i => i = gk ∨ i = gv) A c key w.heap.size 43 (lnC none 0 0 0 0 0 0 0 0 0) := ⟨h.r, lnC_noU8 _ _ _ _ _ _ _ _ _ _, h.bs, h.only, Nat.le_refl _⟩
/-- the answer's box filled -/
def fill8 (w' : World) (R : Nat) (A : Option Addr) (n c : Nat) (side cur next sc ce se na : Int) : World :=
  (((((((w'.setCell ⟨R, 0, none⟩ (.slice A n c)).setCell ⟨R, 1, none⟩ (.int .i64 side)).setCell ⟨R, 2, none⟩ (.int .i64 cur)).setCell ⟨R, 3, none⟩ (.int .i64 next)).setCell ⟨R, 4, none⟩ (.int .u64 sc)).setCell ⟨R, 5, none⟩ (.int .u64 ce)).setCell ⟨R, 6, none⟩ (.int .i64 se)).setCell ⟨R, 7, none⟩ (.int .i64 na)
theorem RB.put {w W : World} {T : Nat → Prop} {A : Option Addr} {c : Nat} {key : List UInt8} {R : Nat} {t : TypeId} {cs : Array Value} (h : RB w W T A c key R t cs) (j : Nat) (u : Value) (hu : ∀ b, u ≠ .int .u8 b) {cs' : Array Value} (e : cs.setIfInBounds j u = cs') :
    RB w (W.setCell ⟨R, j, none⟩ u) T A c key R t cs' := by rw [← e]; exact h.set j u hu
theorem RB.fill8 {w W : World} {T : Nat → Prop} {A : Option Addr} {c : Nat} {key : List UInt8} {R : Nat} (h : RB w W T A c key R 43 (lnC none 0 0 0 0 0 0 0 0 0)) (B : Option Addr) (n d : Nat) (side cur next sc ce se na : Int) :
    RB w (fill8 W R B n d side cur next sc ce se na) T A c key R 43 (lnC B n d side cur next sc ce se na) := by
  have h0 := h.put 0 (.slice B n d) (by intro b e; cases e) (cs' := lnC B n d 0 0 0 0 0 0 0) rfl
  have h1 := h0.put 1 (.int .i64 side) (by intro b e; cases e) (cs' := lnC B n d side 0 0 0 0 0 0) rfl
  have h2 := h1.put 2 (.int .i64 cur) (by intro b e; cases e) (cs' := lnC B n d side cur 0 0 0 0 0) rfl
  have h3 := h2.put 3 (.int .i64 next) (by intro b e; cases e) (cs' := lnC B n d side cur next 0 0 0 0) rfl
  have h4 := h3.put 4 (.int .u64 sc) (by intro b e; cases e) (cs' := lnC B n d side cur next sc 0 0 0) rfl
  have h5 := h4.put 5 (.int .u64 ce) (by intro b e; cases e) (cs' := lnC B n d side cur next sc ce 0 0) rfl
  have h6 := h5.put 6 (.int .i64 se) (by intro b e; cases e) (cs' := lnC B n d side cur next sc ce se 0) rfl
  have h7 := h6.put 7 (.int .i64 na) (by intro b e; cases e) (cs' := lnC B n d side cur next sc ce se na) rfl
  exact h7
theorem RB.c {w W : World} {T : Nat → Prop} {A : Option Addr} {c : Nat} {key : List UInt8} {R : Nat} {t : TypeId} {cs : Array Value} (h : RB w W T A c key R t cs) (j : Nat) : W.cell? ⟨R, j, none⟩ = cs[j]? := blk_cell h.r j
/-- what the readers tell -/
def laneRd (k v : List UInt8) : LaneD :=
  let t0 := takes k 0 1 0
  let tk := takes k t0.2.2.1 (Left k t0.2.2.1 t0.2.2.2) t0.2.2.2
  let t1 := takes v 0 1 0
  let t2 := takes v t1.2.2.1 4 t1.2.2.2
  let t3 := takes v t2.2.2.1 4 t2.2.2.2
  let t4 := takes v t3.2.2.1 8 t3.2.2.2
  let t5 := takes v t4.2.2.1 8 t4.2.2.2
  let t6 := takes v t5.2.2.1 (Left v t5.2.2.1 t5.2.2.2) t5.2.2.2
  let s := stGet t6.1
  ⟨tk.1, val t1.1, val t2.1, val t3.1, val t4.1, val t5.1, s.1, s.2.1⟩
def LaneR (w : World) (gk rk gv : Nat) (d : LaneD) (e : Ending) (w' : World) : Prop := ∃ A c, e = .returned (laneV A c d) ∧ Bs w' A c d.key ∧ Only w w' (fun i => i = gk ∨ i = gv) ∧ At A rk
theorem Left_le (L : List UInt8) (p : Nat) (err : Int) : Left L p err ≤ L.length := by unfold Left; split <;> omega

set_option maxRecDepth 100000 in
set_option maxHeartbeats 1000000 in
theorem getLane1 (gk rk gv rv : Nat) (k v : List UInt8) (w : World) (hk : Rdr w gk rk k 0 0) (hv : Rdr w gv rv v 0 0) (n1 : gk ≠ gv) (n2 : gk ≠ rv) (n3 : gv ≠ rk) :
    Calls Tryz.prog 39 #[.pointer (some ⟨gk, 0, none⟩), .pointer (some ⟨gv, 0, none⟩)] w (LaneR w gk rk gv (laneRd k v)) := by
  have hkm := hk.max
  have hvm := hv.max
  have K0 := Lib.hid (hk.below (below_alloc (Below.refl _ _) (.cells (lnC none 0 0 0 0 0 0 0 0 0) 43)))
  have V0 := Lib.hid (hv.below (below_alloc (Below.refl _ _) (.cells (lnC none 0 0 0 0 0 0 0 0 0) 43)))
  have O0 := Lib.hid ((Only.refl w (fun i => i = gk ∨ i = gv)).alloc (.cells (lnC none 0 0 0 0 0 0 0 0 0) 43))
  have GV := Lib.hid (And.intro (blk_lt hv.b) (And.intro (blk_lt hv.r) (blk_lt hk.b)))
  have NE := Lib.hid (And.intro n1 (And.intro n2 n3))
  clear hk hv n1 n2 n3
  generalize hd : laneRd k v = d
  have HD := Lib.hid hd
  clear hd
  unfold laneRd at HD
  generalize hT0 : takes k 0 1 0 = t0 at *
  obtain ⟨l0, ok0, p0, er0⟩ := t0
  dsimp only at HD
  have C1 := Lib.hid (fun w h => left gk rk p0 k er0 w h)
  generalize hTk : takes k p0 (Left k p0 er0) er0 = tk at *
  obtain ⟨lk, okk, pk, erk⟩ := tk
  generalize hT1 : takes v 0 1 0 = t1 at *
  obtain ⟨l1, ok1, p1, er1⟩ := t1
  dsimp only at HD
  generalize hT2 : takes v p1 4 er1 = t2 at *
  obtain ⟨l2, ok2, p2, er2⟩ := t2
  dsimp only at HD
  generalize hT3 : takes v p2 4 er2 = t3 at *
  obtain ⟨l3, ok3, p3, er3⟩ := t3
  dsimp only at HD
  generalize hT4 : takes v p3 8 er3 = t4 at *
  obtain ⟨l4, ok4, p4, er4⟩ := t4
  dsimp only at HD
  generalize hT5 : takes v p4 8 er4 = t5 at *
  obtain ⟨l5, ok5, p5, er5⟩ := t5
  dsimp only at HD
  generalize hT6 : takes v p5 (Left v p5 er5) er5 = t6 at *
  obtain ⟨l6, ok6, p6, er6⟩ := t6
  dsimp only at HD
  have T0 := Lib.hid hT0
  have TK := Lib.hid hTk
  have T1 := Lib.hid hT1
  have T2 := Lib.hid hT2
  have T3 := Lib.hid hT3
  have T4 := Lib.hid hT4
  have T5 := Lib.hid hT5
  have T6 := Lib.hid hT6
  have B1 : val l1 < 256 := val_pow (k := 1) (by have := (takes_len v 0 1 0).1; rwa [hT1] at this)
  have B2 : val l2 < 4294967296 := Nat.lt_of_lt_of_le (val_pow (k := 4) (by have := (takes_len v p1 4 er1).1; rwa [hT2] at this)) (by decide)
  have B3 : val l3 < 4294967296 := Nat.lt_of_lt_of_le (val_pow (k := 4) (by have := (takes_len v p2 4 er2).1; rwa [hT3] at this)) (by decide)
  have hl1 := Left_le k p0 er0
  have hl2 := Left_le v p5 er5
  clear hT0 hTk hT1 hT2 hT3 hT4 hT5 hT6
  have C0 := Lib.hid (rbytes gk rk 0 1 1 k 0 _ K0.out (by rfl) (by omega))
  rw [T0.out] at C0
  have C2 : Hid (∀ w, Rdr w gk rk k p0 er0 → Calls Tryz.prog 40 #[.pointer (some ⟨gk, 0, none⟩), .int .i64 (Left k p0 er0 : Int)] w (BytesR w gk rk k (lk, okk, pk, erk))) := by
    intro w h
    have := rbytes gk rk p0 (Left k p0 er0) _ k er0 w h rfl (by omega)
    rwa [TK.out] at this
  have G1 : Hid (∀ w, Rdr w gv rv v 0 0 → Calls Tryz.prog 42 #[.pointer (some ⟨gv, 0, none⟩)] w (GetR w gv rv v .u8 (l1, ok1, p1, er1))) := by
    intro w h; have := get_uint8 gv rv 0 v 0 w h; rwa [T1.out] at this
  have G2 : Hid (∀ w, Rdr w gv rv v p1 er1 → Calls Tryz.prog 43 #[.pointer (some ⟨gv, 0, none⟩)] w (GetR w gv rv v .u32 (l2, ok2, p2, er2))) := by
    intro w h; have := get_uint32 gv rv p1 v er1 w h; rwa [T2.out] at this
  have G3 : Hid (∀ w, Rdr w gv rv v p2 er2 → Calls Tryz.prog 43 #[.pointer (some ⟨gv, 0, none⟩)] w (GetR w gv rv v .u32 (l3, ok3, p3, er3))) := by
    intro w h; have := get_uint32 gv rv p2 v er2 w h; rwa [T3.out] at this
  have G4 : Hid (∀ w, Rdr w gv rv v p3 er3 → Calls Tryz.prog 44 #[.pointer (some ⟨gv, 0, none⟩)] w (GetR w gv rv v .u64 (l4, ok4, p4, er4))) := by
    intro w h; have := get_uint64 gv rv p3 v er3 w h; rwa [T4.out] at this
  have G5 : Hid (∀ w, Rdr w gv rv v p4 er4 → Calls Tryz.prog 44 #[.pointer (some ⟨gv, 0, none⟩)] w (GetR w gv rv v .u64 (l5, ok5, p5, er5))) := by
    intro w h; have := get_uint64 gv rv p4 v er4 w h; rwa [T5.out] at this
  have C6 : Hid (∀ w, Rdr w gv rv v p5 er5 → Calls Tryz.prog 40 #[.pointer (some ⟨gv, 0, none⟩), .int .i64 (Left v p5 er5 : Int)] w (BytesR w gv rv v (l6, ok6, p6, er6))) := by
    intro w h
    have := rbytes gv rv p5 (Left v p5 er5) _ v er5 w h rfl (by omega)
    rwa [T6.out] at this
  have C5 := Lib.hid (fun w h => left gv rv p5 v er5 w h)
  unfold GetR at G1 G2 G3 G4 G5
  dsimp only at G1 G2 G3 G4 G5
  generalize val l1 = x1 at *
  generalize val l2 = x2 at *
  generalize val l3 = x3 at *
  generalize val l4 = x4 at *
  generalize val l5 = x5 at *
  generalize Left k p0 er0 = lf0 at *
  generalize Left v p5 er5 = lf5 at *
  go_enter Tryz.func39, Tryz.ntmps39
  go_wp2_with fail
  refine C0.out.mono ?_
  rintro e w1 ⟨A0, c0, rfl, _, kr, o1, -⟩
  dsimp only at kr
  have V1 := Lib.hid (V0.out.only o1 NE.out.1.symm NE.out.2.1.symm)
  have O1 := Lib.hid (O0.out.then_ o1 (fun i hi => .inl (.inl hi)))
  have R1 : Hid (w1.heap[w.heap.size]? = some (.cells (lnC none 0 0 0 0 0 0 0 0 0) 43 (0, 0))) := o1.blk (blk_new _ _) (by have := GV.out; omega)
  have K1 := Lib.hid kr
  clear kr o1
  go_wp2_with fail
  refine (C1.out _ K1.out).mono ?_
  rintro e w2 ⟨q1, rfl, rfl⟩
  go_wp2_with fail
  refine (C2.out _ (K1.out.drewN q1)).mono ?_
  rintro e w2 ⟨A, c, rfl, bs, kr, o2, hat⟩
  have HAT := Lib.hid hat
  clear hat
  dsimp only at kr bs o2
  have V2 := Lib.hid ((V1.out.drewN q1).only o2 NE.out.1.symm NE.out.2.1.symm)
  have O2 := Lib.hid ((O1.out.drewN q1).then_ o2 (fun i hi => .inl (.inl hi)))
  have R2 : Hid (w2.heap[w.heap.size]? = some (.cells (lnC none 0 0 0 0 0 0 0 0 0) 43 (0, 0))) := o2.blk (blk_drewN q1 R1.out) (by have := GV.out; omega)
  have S2 := Lib.hid bs
  clear kr bs o2
  go_wp2_with fail
  have X : GLn w (w2.alloc (.cells (lnC A lk.length c 0 0 0 0 0 0 0) 43)) gk gv rv v 0 0 A c lk w2.heap.size 0 0 0 0 0 0 0 :=
    ⟨V2.out.below (below_alloc (Below.refl _ _) _), blk_new _ _, blk_alloc R2.out _, S2.out.below (below_alloc (Below.refl _ _) _), O2.out.alloc _, blk_lt R2.out, GV.out.1, GV.out.2.1⟩
  have X0 := Lib.hid X
  clear X
  refine (G1.out _ X0.out.vr).mono ?_
  rintro e u1 ⟨rfl, vr, o⟩
  have X := X0.out.read vr o
  have cc : u1.cell? ⟨w2.heap.size, 1, none⟩ = some (.int .i64 0) := X.cell 1
  have ff := X.free 1
  have X1 := Lib.hid (X.store 1 (.int .i64 (x1 : Int)) rfl)
  clear X vr o
  go_wp2_with fail
  clear cc ff
  refine (G2.out _ X1.out.vr).mono ?_
  rintro e u2 ⟨rfl, vr, o⟩
  have X := X1.out.read vr o
  have cc : u2.cell? ⟨w2.heap.size, 2, none⟩ = some (.int .i64 0) := X.cell 2
  have ff := X.free 2
  have X2 := Lib.hid (X.store 2 (.int .i64 (x2 : Int)) rfl)
  clear X vr o
  go_wp2_with fail
  clear cc ff
  refine (G3.out _ X2.out.vr).mono ?_
  rintro e u3 ⟨rfl, vr, o⟩
  have X := X2.out.read vr o
  have cc : u3.cell? ⟨w2.heap.size, 3, none⟩ = some (.int .i64 0) := X.cell 3
  have ff := X.free 3
  have X3 := Lib.hid (X.store 3 (.int .i64 (x3 : Int)) rfl)
  clear X vr o
  go_wp2_with fail
  clear cc ff
  refine (G4.out _ X3.out.vr).mono ?_
  rintro e u4 ⟨rfl, vr, o⟩
  have X := X3.out.read vr o
  have cc : u4.cell? ⟨w2.heap.size, 4, none⟩ = some (.int .u64 0) := X.cell 4
  have ff := X.free 4
  have X4 := Lib.hid (X.store 4 (.int .u64 (x4 : Int)) rfl)
  clear X vr o
  go_wp2_with fail
  clear cc ff
  refine (G5.out _ X4.out.vr).mono ?_
  rintro e u5 ⟨rfl, vr, o⟩
  have X := X4.out.read vr o
  have cc : u5.cell? ⟨w2.heap.size, 5, none⟩ = some (.int .u64 0) := X.cell 5
  have ff := X.free 5
  have X5 := Lib.hid (X.store 5 (.int .u64 (x5 : Int)) rfl)
  clear X vr o
  go_wp2_with fail
  clear cc ff
  refine (C5.out _ X5.out.vr).mono ?_
  rintro e u6 ⟨q6, rfl, rfl⟩
  go_wp2_with fail
  refine (C6.out _ (X5.out.vr.drewN q6)).mono ?_
  rintro e u6 ⟨A6, c6, rfl, bs, vr, o, -⟩
  have X6 := Lib.hid ((X5.out.drewN q6).read vr o)
  have B6 := Lib.hid bs
  clear bs vr o
  dsimp only at B6 ⊢
  generalize hst : stGet l6 = st at *
  have ST : Hid (∀ w c A, Bs w A c l6 → Calls Tryz.prog 45 #[.slice A l6.length c] w (Pure w (stVal st))) := by
    intro w c A h; rw [← hst]; exact stampGet A c l6 w h
  clear hst
  obtain ⟨s1, s2, s3⟩ := st
  dsimp only at HD
  unfold stVal at ST
  go_wp2_with fail
  refine (ST.out _ c6 A6 B6.out).mono ?_
  rintro e u7 ⟨rfl, hb⟩
  have X := X6.out.below hb
  have cc : u7.cell? ⟨w2.heap.size, 6, none⟩ = some (.int .i64 0) := X.cell 6
  have cc2 : u7.cell? ⟨w2.heap.size, 7, none⟩ = some (.int .i64 0) := X.cell 7
  have ff := X.free 6
  have ff2 := X.free 7
  have Y := (X.store 6 (.int .i64 s1) (se1 := s1) rfl).store 7 (.int .i64 s2) (na1 := s2) rfl
  have e0 : ((u7.setCell ⟨w2.heap.size, 6, none⟩ (.int .i64 s1)).setCell ⟨w2.heap.size, 7, none⟩ (.int .i64 s2)).cell? ⟨w2.heap.size, 0, none⟩ = some (.slice A lk.length c) := Y.cell 0
  have e1 : ((u7.setCell ⟨w2.heap.size, 6, none⟩ (.int .i64 s1)).setCell ⟨w2.heap.size, 7, none⟩ (.int .i64 s2)).cell? ⟨w2.heap.size, 1, none⟩ = some (.int .i64 x1) := Y.cell 1
  have e2 : ((u7.setCell ⟨w2.heap.size, 6, none⟩ (.int .i64 s1)).setCell ⟨w2.heap.size, 7, none⟩ (.int .i64 s2)).cell? ⟨w2.heap.size, 2, none⟩ = some (.int .i64 x2) := Y.cell 2
  have e3 : ((u7.setCell ⟨w2.heap.size, 6, none⟩ (.int .i64 s1)).setCell ⟨w2.heap.size, 7, none⟩ (.int .i64 s2)).cell? ⟨w2.heap.size, 3, none⟩ = some (.int .i64 x3) := Y.cell 3
  have e4 : ((u7.setCell ⟨w2.heap.size, 6, none⟩ (.int .i64 s1)).setCell ⟨w2.heap.size, 7, none⟩ (.int .i64 s2)).cell? ⟨w2.heap.size, 4, none⟩ = some (.int .u64 x4) := Y.cell 4
  have e5 : ((u7.setCell ⟨w2.heap.size, 6, none⟩ (.int .i64 s1)).setCell ⟨w2.heap.size, 7, none⟩ (.int .i64 s2)).cell? ⟨w2.heap.size, 5, none⟩ = some (.int .u64 x5) := Y.cell 5
  have e6 : ((u7.setCell ⟨w2.heap.size, 6, none⟩ (.int .i64 s1)).setCell ⟨w2.heap.size, 7, none⟩ (.int .i64 s2)).cell? ⟨w2.heap.size, 6, none⟩ = some (.int .i64 s1) := Y.cell 6
  have e7 : ((u7.setCell ⟨w2.heap.size, 6, none⟩ (.int .i64 s1)).setCell ⟨w2.heap.size, 7, none⟩ (.int .i64 s2)).cell? ⟨w2.heap.size, 7, none⟩ = some (.int .i64 s2) := Y.cell 7
  have b0 : ((u7.setCell ⟨w2.heap.size, 6, none⟩ (.int .i64 s1)).setCell ⟨w2.heap.size, 7, none⟩ (.int .i64 s2)).cell? ⟨w.heap.size, 0, none⟩ = some (.slice none 0 0) := blk_cell Y.r 0
  have z0 := blk_free Y.r 0
  have b1 : ((u7.setCell ⟨w2.heap.size, 6, none⟩ (.int .i64 s1)).setCell ⟨w2.heap.size, 7, none⟩ (.int .i64 s2)).cell? ⟨w.heap.size, 1, none⟩ = some (.int .i64 0) := blk_cell Y.r 1
  have z1 := blk_free Y.r 1
  have b2 : ((u7.setCell ⟨w2.heap.size, 6, none⟩ (.int .i64 s1)).setCell ⟨w2.heap.size, 7, none⟩ (.int .i64 s2)).cell? ⟨w.heap.size, 2, none⟩ = some (.int .i64 0) := blk_cell Y.r 2
  have z2 := blk_free Y.r 2
  have b3 : ((u7.setCell ⟨w2.heap.size, 6, none⟩ (.int .i64 s1)).setCell ⟨w2.heap.size, 7, none⟩ (.int .i64 s2)).cell? ⟨w.heap.size, 3, none⟩ = some (.int .i64 0) := blk_cell Y.r 3
  have z3 := blk_free Y.r 3
  have b4 : ((u7.setCell ⟨w2.heap.size, 6, none⟩ (.int .i64 s1)).setCell ⟨w2.heap.size, 7, none⟩ (.int .i64 s2)).cell? ⟨w.heap.size, 4, none⟩ = some (.int .u64 0) := blk_cell Y.r 4
  have z4 := blk_free Y.r 4
  have b5 : ((u7.setCell ⟨w2.heap.size, 6, none⟩ (.int .i64 s1)).setCell ⟨w2.heap.size, 7, none⟩ (.int .i64 s2)).cell? ⟨w.heap.size, 5, none⟩ = some (.int .u64 0) := blk_cell Y.r 5
  have z5 := blk_free Y.r 5
  have b6 : ((u7.setCell ⟨w2.heap.size, 6, none⟩ (.int .i64 s1)).setCell ⟨w2.heap.size, 7, none⟩ (.int .i64 s2)).cell? ⟨w.heap.size, 6, none⟩ = some (.int .i64 0) := blk_cell Y.r 6
  have z6 := blk_free Y.r 6
  have b7 : ((u7.setCell ⟨w2.heap.size, 6, none⟩ (.int .i64 s1)).setCell ⟨w2.heap.size, 7, none⟩ (.int .i64 s2)).cell? ⟨w.heap.size, 7, none⟩ = some (.int .i64 0) := blk_cell Y.r 7
  have z7 := blk_free Y.r 7
  have F := Y.rb.fill8 A lk.length c x1 x2 x3 x4 x5 s1 s2
  have j0 := Lib.hid ((F.c 0).trans (b := some (Value.slice A lk.length c)) rfl)
  have j1 := Lib.hid ((F.c 1).trans (b := some (Value.int .i64 x1)) rfl)
  have j2 := Lib.hid ((F.c 2).trans (b := some (Value.int .i64 x2)) rfl)
  have j3 := Lib.hid ((F.c 3).trans (b := some (Value.int .i64 x3)) rfl)
  have j4 := Lib.hid ((F.c 4).trans (b := some (Value.int .u64 x4)) rfl)
  have j5 := Lib.hid ((F.c 5).trans (b := some (Value.int .u64 x5)) rfl)
  have j6 := Lib.hid ((F.c 6).trans (b := some (Value.int .i64 s1)) rfl)
  have j7 := Lib.hid ((F.c 7).trans (b := some (Value.int .i64 s2)) rfl)
  have FF := Lib.hid F
  clear F
  have X7 := Lib.hid X
  have X8 := Lib.hid Y
  clear X Y hb
  go_wp2_with fail
  have hD := HD.out
  subst hD
  unfold fill8 at j0 j1 j2 j3 j4 j5 j6 j7
  exact bodyPost_ret (v := .agg #[.slice A lk.length c, .int .i64 x1, .int .i64 x2, .int .i64 x3, .int .u64 x4, .int .u64 x5, .int .i64 s1, .int .i64 s2]) (by simp [results, Tryz.results39, go_sem, j0.out, j1.out, j2.out, j3.out, j4.out, j5.out, j6.out, j7.out]) rfl ⟨A, c, rfl, FF.out.bs, FF.out.only, HAT.out⟩
end Go.Proofs.YtafdhccdjbfepaaGreat.Help
/- The walk of read[Lane]. -/
namespace Go.Proofs.YtafdhccdjbfepaaGreat.Help
open Go.RowKit Go.Proofs.YtafdhccdjbfepaaGreat.K
set_option linter.unusedVariables false

def zeroLane : LaneD := ⟨[], 0, 0, 0, 0, 0, 0, 0⟩
/-- what GetLane answers: the lane and the error -/
def laneGet (k v : List UInt8) : LaneD × Int := if (putLane (laneRd k v)).2.2 = 0 ∧ (putLane (laneRd k v)).1 = k ∧ (putLane (laneRd k v)).2.1 = v then (laneRd k v, 0) else (zeroLane, 114)
def GotL (w : World) (t : LaneD × Int) (e : Ending) (w' : World) : Prop := ∃ A c, e = .returned (.tuple #[laneV A c t.1, .int .i64 t.2]) ∧ Bs w' A c t.1.key ∧ Below w.heap.size w w' ∧ Nw w A
/-- read's memory: the boxes of the row, of the answer, of the empty answer -/
structure RdL (w w' : World) (x y : Value) : Prop where
  b : w'.heap[w.heap.size]? = some (.cells #[x, y] 47 (0, 0))
  r : w'.heap[w.heap.size + 1]? = some (.cells (lnC none 0 0 0 0 0 0 0 0 0) 43 (0, 0))
  n : w'.heap[w.heap.size + 2]? = some (.cells (lnC none 0 0 0 0 0 0 0 0 0) 43 (0, 0))
  below : Below w.heap.size w w'
section
variable {w w' w2 : World} {x y : Value}
theorem RdL.c0 (h : RdL w w' x y) : w'.cell? ⟨w.heap.size, 0, none⟩ = some x := (blk_cell h.b 0).trans rfl
theorem RdL.c1 (h : RdL w w' x y) : w'.cell? ⟨w.heap.size, 1, none⟩ = some y := (blk_cell h.b 1).trans rfl
theorem RdL.start (w : World) (x y : Value) : RdL w (((w.alloc (.cells #[x, y] 47)).alloc (.cells (lnC none 0 0 0 0 0 0 0 0 0) 43)).alloc (.cells (lnC none 0 0 0 0 0 0 0 0 0) 43)) x y :=
  ⟨blk_alloc (blk_alloc (blk_new _ _) _) _, blk_alloc (by have := blk_new (w.alloc (.cells #[x, y] 47)) (.cells (lnC none 0 0 0 0 0 0 0 0 0) 43); simpa using this) _,
    by have := blk_new ((w.alloc (.cells #[x, y] 47)).alloc (.cells (lnC none 0 0 0 0 0 0 0 0 0) 43)) (.cells (lnC none 0 0 0 0 0 0 0 0 0) 43); simpa using this,
    below_alloc (below_alloc (below_alloc (Below.refl _ _) _) _) _⟩
theorem RdL.step (h : RdL w w' x y) (hb : Below w'.heap.size w' w2) : RdL w w2 x y := ⟨(hb.block _ (blk_lt h.b)).trans h.b, (hb.block _ (blk_lt h.r)).trans h.r, (hb.block _ (blk_lt h.n)).trans h.n, below_step h.below hb⟩
theorem RdL.drewN (h : RdL w w' x y) (n : Nat) : RdL w (w'.drewN n) x y := ⟨h.b, h.r, h.n, below_drewN h.below n⟩
theorem RdL.alloc (h : RdL w w' x y) (o : Obj) : RdL w (w'.alloc o) x y := h.step (below_alloc (Below.refl _ _) o)
theorem RdL.only {T : Nat → Prop} (h : RdL w w' x y) (k : Only w' w2 T) (hT : ∀ i, T i → w.heap.size + 2 < i) : RdL w w2 x y :=
  ⟨k.blk h.b (fun h2 => by have := hT _ h2; omega), k.blk h.r (fun h2 => by have := hT _ h2; omega), k.blk h.n (fun h2 => by have := hT _ h2; omega), below_only h.below k (fun i hi => by have := hT i hi; omega)⟩
theorem RdL.bs (h : RdL w w' x y) {A : Option Addr} {c : Nat} {l : List UInt8} (hs : Bs w A c l) : Bs w' A c l := hs.below h.below
theorem RdL.lt (h : RdL w w' x y) : w.heap.size + 2 < w'.heap.size := blk_lt h.n
end

/-- blocks of lanes stay -/
def PersL (W W' : World) : Prop := ∀ (g : Nat) (cs : Array Value) (fr : Nat × Nat), W.heap[g]? = some (Obj.cells cs 43 fr) → W'.heap[g]? = some (Obj.cells cs 43 fr)
theorem zero_cells {W : World} {X : Nat} (h : W.heap[X]? = some (.cells (lnC none 0 0 0 0 0 0 0 0 0) 43 (0, 0))) :
    W.cell? ⟨X, 0, none⟩ = some (.slice none 0 0) ∧ W.cell? ⟨X, 1, none⟩ = some (.int .i64 0) ∧ W.cell? ⟨X, 2, none⟩ = some (.int .i64 0) ∧ W.cell? ⟨X, 3, none⟩ = some (.int .i64 0) ∧ W.cell? ⟨X, 4, none⟩ = some (.int .u64 0) ∧ W.cell? ⟨X, 5, none⟩ = some (.int .u64 0) ∧ W.cell? ⟨X, 6, none⟩ = some (.int .i64 0) ∧ W.cell? ⟨X, 7, none⟩ = some (.int .i64 0) ∧
    W.frozen? ⟨X, 0, none⟩ = false ∧ W.frozen? ⟨X, 1, none⟩ = false ∧ W.frozen? ⟨X, 2, none⟩ = false ∧ W.frozen? ⟨X, 3, none⟩ = false ∧ W.frozen? ⟨X, 4, none⟩ = false ∧ W.frozen? ⟨X, 5, none⟩ = false ∧ W.frozen? ⟨X, 6, none⟩ = false ∧ W.frozen? ⟨X, 7, none⟩ = false :=
  ⟨blk_cell h 0, blk_cell h 1, blk_cell h 2, blk_cell h 3, blk_cell h 4, blk_cell h 5, blk_cell h 6, blk_cell h 7, blk_free h 0, blk_free h 1, blk_free h 2, blk_free h 3, blk_free h 4, blk_free h 5, blk_free h 6, blk_free h 7⟩
def NewR2 (w W : World) (x y : Value) (l : List UInt8) (e : Ending) (w2 : World) : Prop :=
  ∃ g r, e = .returned (.pointer (some ⟨g, 0, none⟩)) ∧ RdL w w2 x y ∧ Rdr w2 g r l 0 0 ∧ PersL W w2 ∧ (∀ g' r' k', Rdr W g' r' k' 0 0 → Rdr w2 g' r' k' 0 0 ∧ g' ≠ g ∧ g' ≠ r ∧ g ≠ r') ∧ w.heap.size + 2 < g ∧ w.heap.size ≤ r
theorem newReader2 {w W : World} {x y : Value} (A : Option Addr) (c : Nat) (l : List UInt8) (hW : RdL w W x y) (hs : Bs w A c l) : Calls Tryz.prog 80 #[.slice A l.length c] W (NewR2 w W x y l) := by
  refine (newReader A c l W (hW.bs hs)).mono ?_
  rintro e w2 ⟨g, r, rfl, h1, h2, h3, h4⟩
  refine ⟨g, r, rfl, hW.step h2, h1, fun g cs fr h => (h2.block _ (blk_lt h)).trans h, fun g' r' k' h => ⟨h.below h2, ?_, ?_, ?_⟩, Nat.lt_of_lt_of_le hW.lt h3, by have := hW.lt; omega⟩
  · have := blk_lt h.b; omega
  · have := blk_lt h.b; omega
  · have := blk_lt h.r; omega
def GotR2 (w W : World) (x y : Value) (d : LaneD) (e : Ending) (w3 : World) : Prop := ∃ A c, e = .returned (laneV A c d) ∧ RdL w w3 x y ∧ Bs w3 A c d.key ∧ PersL W w3 ∧ Nw w A
theorem getLane2 {w W : World} {x y : Value} (gk rk gv rv : Nat) (k v : List UInt8) (hW : RdL w W x y) (hk : Rdr W gk rk k 0 0) (hv : Rdr W gv rv v 0 0) (n : gk ≠ gv ∧ gk ≠ rv ∧ gv ≠ rk) (h1 : w.heap.size + 2 < gk) (h2 : w.heap.size + 2 < gv) (h3 : w.heap.size ≤ rk) :
    Calls Tryz.prog 39 #[.pointer (some ⟨gk, 0, none⟩), .pointer (some ⟨gv, 0, none⟩)] W (GotR2 w W x y (laneRd k v)) := by
  refine (getLane1 gk rk gv rv k v W hk hv n.1 n.2.1 n.2.2).mono ?_
  rintro e w3 ⟨A, c, rfl, hb, ho, hat⟩
  refine ⟨A, c, rfl, hW.only ho (fun i hi => ?_), hb, fun g cs fr h => ho.blk h (fun hi => ?_), hat.nw h3⟩
  · rcases hi with rfl | rfl <;> assumption
  · rcases hi with rfl | rfl
    · exact blk_ne h hk.b (by decide) rfl
    · exact blk_ne h hv.b (by decide) rfl
/-- behind the readers: the lane in its box -/
def LCut (w : World) (x y : Value) (d : LaneD) (s9 : Value) (wx : World) : Prop :=
  ∃ X A c, s9 = .pointer (some ⟨X, 0, none⟩) ∧ RdL w wx x y ∧ Bs wx A c d.key ∧ wx.heap[X]? = some (.cells (lnC A d.key.length c d.side d.cur d.next d.sc d.ceil d.sec d.nano) 43 (0, 0)) ∧ w.heap.size + 2 < X ∧ Nw w A
theorem LCut.mk' {w W : World} {x y : Value} {d : LaneD} {A : Option Addr} {c X : Nat} (hW : RdL w W x y) (hb : Bs W A c d.key) (hX : W.heap[X]? = some (.cells (lnC none 0 0 0 0 0 0 0 0 0) 43 (0, 0))) (hlt : w.heap.size + 2 < X) (hn : Nw w A) :
    LCut w x y d (.pointer (some ⟨X, 0, none⟩)) (fill8 W X A d.key.length c d.side d.cur d.next d.sc d.ceil d.sec d.nano) := by
  have h0 : RB w W (fun k => k = X) A c d.key X 43 (lnC none 0 0 0 0 0 0 0 0 0) := ⟨hX, lnC_noU8 _ _ _ _ _ _ _ _ _ _, hb, Only.of_below hW.below _, by omega⟩
  have h1 := h0.fill8 A d.key.length c d.side d.cur d.next d.sc d.ceil d.sec d.nano
  have ho : Only W (fill8 W X A d.key.length c d.side d.cur d.next d.sc d.ceil d.sec d.nano) (fun k => k = X) := by
    unfold fill8
    exact ((((((((Only.refl W (fun k => k = X)).setCell (p := ⟨X, 0, none⟩) (.inl rfl) _).setCell (p := ⟨X, 1, none⟩) (.inl rfl) _).setCell (p := ⟨X, 2, none⟩) (.inl rfl) _).setCell (p := ⟨X, 3, none⟩) (.inl rfl) _).setCell (p := ⟨X, 4, none⟩) (.inl rfl) _).setCell (p := ⟨X, 5, none⟩) (.inl rfl) _).setCell (p := ⟨X, 6, none⟩) (.inl rfl) _).setCell (p := ⟨X, 7, none⟩) (.inl rfl) _
  exact ⟨X, A, c, rfl, hW.only ho (fun i hi => by rw [hi]; exact hlt), h1.bs, h1.r, hlt, hn⟩

theorem LCut.new {w W : World} {x y : Value} {d : LaneD} {A : Option Addr} {c : Nat} (hW : RdL w W x y) (hb : Bs W A c d.key) (hn : Nw w A) :
    LCut w x y d (.pointer (some ⟨W.heap.size, 0, none⟩)) (W.alloc (.cells (lnC A d.key.length c d.side d.cur d.next d.sc d.ceil d.sec d.nano) 43)) :=
  ⟨_, A, c, rfl, hW.alloc _, hb.below (below_alloc (Below.refl _ _) _), blk_new _ _, hW.lt, hn⟩
theorem lane_cells {W : World} {X : Nat} {A : Option Addr} {n c : Nat} {side cur next sc ce se na : Int} (h : W.heap[X]? = some (.cells (lnC A n c side cur next sc ce se na) 43 (0, 0))) :
    W.cell? ⟨X, 0, none⟩ = some (.slice A n c) ∧ W.cell? ⟨X, 1, none⟩ = some (.int .i64 side) ∧ W.cell? ⟨X, 2, none⟩ = some (.int .i64 cur) ∧ W.cell? ⟨X, 3, none⟩ = some (.int .i64 next) ∧ W.cell? ⟨X, 4, none⟩ = some (.int .u64 sc) ∧ W.cell? ⟨X, 5, none⟩ = some (.int .u64 ce) ∧ W.cell? ⟨X, 6, none⟩ = some (.int .i64 se) ∧ W.cell? ⟨X, 7, none⟩ = some (.int .i64 na) :=
  ⟨blk_cell h 0, blk_cell h 1, blk_cell h 2, blk_cell h 3, blk_cell h 4, blk_cell h 5, blk_cell h 6, blk_cell h 7⟩
/-- the boxes and the lane -/
structure RdX (w W : World) (x y : Value) (X : Nat) (A : Option Addr) (c : Nat) (d : LaneD) : Prop where
  h : RdL w W x y
  bs : Bs W A c d.key
  bx : W.heap[X]? = some (.cells (lnC A d.key.length c d.side d.cur d.next d.sc d.ceil d.sec d.nano) 43 (0, 0))
theorem RdX.step {w W w2 : World} {x y : Value} {X : Nat} {A : Option Addr} {c : Nat} {d : LaneD} (h : RdX w W x y X A c d) (hb : Below W.heap.size W w2) : RdX w w2 x y X A c d :=
  ⟨h.h.step hb, h.bs.below hb, (hb.block _ (blk_lt h.bx)).trans h.bx⟩
theorem RdX.drewN {w W : World} {x y : Value} {X : Nat} {A : Option Addr} {c : Nat} {d : LaneD} (h : RdX w W x y X A c d) (n : Nat) : RdX w (W.drewN n) x y X A c d := ⟨h.h.drewN n, h.bs.drewN n, h.bx⟩
theorem RdX.rb {w W : World} {x y : Value} {X : Nat} {A : Option Addr} {c : Nat} {d : LaneD} (h : RdX w W x y X A c d) : RB w W (fun _ => False) A c d.key (w.heap.size + 1) 43 (lnC none 0 0 0 0 0 0 0 0 0) :=
  ⟨h.h.r, lnC_noU8 _ _ _ _ _ _ _ _ _ _, h.bs, Only.of_below h.h.below _, by omega⟩
theorem RB.below {w W : World} {A : Option Addr} {c : Nat} {key : List UInt8} {R : Nat} {t : TypeId} {cs : Array Value} (h : RB w W (fun _ => False) A c key R t cs) : Below w.heap.size w W := h.only.below (fun k hk => hk.elim) (Nat.le_refl _)
theorem stGet_le (l : List UInt8) : (stGet l).1 ≤ 9223372036854775807 := by
  unfold stGet
  split
  · split
    · decide
    · dsimp only; omega
  · decide
theorem laneRd_b (k v : List UInt8) : LaneB (laneRd k v) := by
  have h8 : ∀ (L : List UInt8) p e, val (takes L p 8 e).1 < 18446744073709551616 := fun L p e => Nat.lt_of_lt_of_le (val_pow (takes_len L p 8 e).1) (by decide)
  exact ⟨h8 _ _ _, h8 _ _ _, stGet_le _⟩

set_option maxRecDepth 100000 in
set_option maxHeartbeats 4000000 in
theorem readLane (A B : Option Addr) (c d : Nat) (k v : List UInt8) (w : World) (ha : Bs w A c k) (hb : Bs w B d v) :
    Calls Tryz.prog 38 #[.agg #[.slice A k.length c, .slice B v.length d], .func (.func 39) #[] #[], .func (.func 18) #[] #[]] w (GotL w (laneGet k v)) := by
  have HA := Lib.hid ha
  have HB := Lib.hid hb
  clear ha hb
  have H0 := Lib.hid (RdL.start w (.slice A k.length c) (.slice B v.length d))
  have s0 := H0.out.c0
  have s1 := H0.out.c1
  have G : Hid (∀ gk rk gv rv W, RdL w W (.slice A k.length c) (.slice B v.length d) → Rdr W gk rk k 0 0 → Rdr W gv rv v 0 0 → (gk ≠ gv ∧ gk ≠ rv ∧ gv ≠ rk) → w.heap.size + 2 < gk → w.heap.size + 2 < gv → w.heap.size ≤ rk → Calls Tryz.prog 39 #[.pointer (some ⟨gk, 0, none⟩), .pointer (some ⟨gv, 0, none⟩)] W (GotR2 w W (.slice A k.length c) (.slice B v.length d) (laneRd k v))) :=
    Lib.hid (fun gk rk gv rv W h0 h1 h2 h3 h4 h5 h6 => getLane2 gk rk gv rv k v h0 h1 h2 h3 h4 h5 h6)
  generalize hg : laneGet k v = got
  have HG := Lib.hid hg
  clear hg
  unfold laneGet at HG
  have XB := Lib.hid (laneRd_b k v)
  generalize laneRd k v = x at *
  go_enter Tryz.func38, Tryz.ntmps38
  go_upto_region 2 with fail
  go_cut [9] (fun s9 wx => LCut w (.slice A k.length c) (.slice B v.length d) x s9 wx)
  case first =>
    have hlt0 := H0.out.lt
    unfold lnC at H0
    generalize ((w.alloc (.cells #[.slice A k.length c, .slice B v.length d] 47)).alloc (.cells #[.slice none 0 0, .int .i64 0, .int .i64 0, .int .i64 0, .int .u64 0, .int .u64 0, .int .i64 0, .int .i64 0] 43)).alloc (.cells #[.slice none 0 0, .int .i64 0, .int .i64 0, .int .i64 0, .int .u64 0, .int .u64 0, .int .i64 0, .int .i64 0] 43) = W0 at H0 ⊢
    clear hlt0 s0 s1
    have s0 := H0.out.c0
    have s1 := H0.out.c1
    go_region_held3 (fun w' => w'.cell? ⟨w.heap.size, 0, none⟩ = some (.slice A k.length c) ∧ w'.cell? ⟨w.heap.size, 1, none⟩ = some (.slice B v.length d)) (first | go_keep | exact ⟨d0, d1⟩ | exact ⟨e0, e1⟩ | exact ⟨f0, f1⟩)
      (first
      | (go_at_call 39; refine (G.out g1 r1 g2 r2 _ (by first | exact H2.out | exact H2.out.drewN _ | exact H2.out.alloc _ | exact (H2.out.alloc _).drewN _) (by first | exact R1'.out | exact R1'.out.drewN _ | exact R1'.out.below (below_alloc (Below.refl _ _) _) | exact (R1'.out.below (below_alloc (Below.refl _ _) _)).drewN _) (by first | exact R2.out | exact R2.out.drewN _ | exact R2.out.below (below_alloc (Below.refl _ _) _) | exact (R2.out.below (below_alloc (Below.refl _ _) _)).drewN _) NE.out L1.out L2.out LR1.out).mono ?_; rintro e w3 ⟨A3, c3, rfl, h1, h2, h3, h4⟩; have NW3 := Lib.hid h4; clear h4; unfold laneV; have f0 := h1.c0; have f1 := h1.c1; have H3 := Lib.hid h1; have S3 := Lib.hid h2; have P3 := Lib.hid h3; clear h1 h2 h3; (try (have zA := P3.out _ _ _ (P2.out _ _ _ (P1.out _ _ _ (blk_new W0 _))); obtain ⟨ya0, ya1, ya2, ya3, ya4, ya5, ya6, ya7, yb0, yb1, yb2, yb3, yb4, yb5, yb6, yb7⟩ := zero_cells zA; have ZA := Lib.hid zA; have nA1 : ¬ w.heap.size = W0.heap.size := (by have := H0.out.lt; omega); have nA2 : ¬ W0.heap.size = w.heap.size := (by have := H0.out.lt; omega); clear zA)); (try (have zB := P3.out _ _ _ (P2.out _ _ _ (blk_new w1 _)); obtain ⟨yc0, yc1, yc2, yc3, yc4, yc5, yc6, yc7, yd0, yd1, yd2, yd3, yd4, yd5, yd6, yd7⟩ := zero_cells zB; have ZB := Lib.hid zB; have nB1 : ¬ w.heap.size = w1.heap.size := (by have := H1.out.lt; omega); have nB2 : ¬ w1.heap.size = w.heap.size := (by have := H1.out.lt; omega); clear zB)); (try (have zC := P3.out _ _ _ (blk_new w2 _); obtain ⟨ye0, ye1, ye2, ye3, ye4, ye5, ye6, ye7, yf0, yf1, yf2, yf3, yf4, yf5, yf6, yf7⟩ := zero_cells zC; have ZC := Lib.hid zC; have nC1 : ¬ w.heap.size = w2.heap.size := (by have := H2.out.lt; omega); have nC2 : ¬ w2.heap.size = w.heap.size := (by have := H2.out.lt; omega); clear zC)))
      | (go_at_call_of 80 (Value.slice B v.length d); refine (newReader2 B d v (by first | exact H1.out | exact H1.out.drewN _ | exact H1.out.alloc _ | exact (H1.out.alloc _).drewN _) HB.out).mono ?_; rintro e w2 ⟨g2, r2, rfl, h1, h2, h3, h4, h5, -⟩
         have e0 := h1.c0
         have e1 := h1.c1
         have hh := h4 g1 r1 k (by first | exact R1.out | exact R1.out.drewN _ | exact R1.out.below (below_alloc (Below.refl _ _) _) | exact (R1.out.below (below_alloc (Below.refl _ _) _)).drewN _)
         have H2 := Lib.hid h1
         have R2 := Lib.hid h2
         have P2 := Lib.hid h3
         have R1' := Lib.hid hh.1
         have NE := Lib.hid hh.2
         have L2 := Lib.hid h5
         clear h1 h2 h3 h4 h5 hh)
      | (go_at_call_of 80 (Value.slice A k.length c); refine (newReader2 A c k (by first | exact H0.out | exact H0.out.drewN _ | exact H0.out.alloc _ | exact (H0.out.alloc _).drewN _) HA.out).mono ?_; rintro e w1 ⟨g1, r1, rfl, h1, h2, h3, h4, h5, h6⟩
         have LR1 := Lib.hid h6
         clear h6
         have d0 := h1.c0
         have d1 := h1.c1
         have H1 := Lib.hid h1
         have R1 := Lib.hid h2
         have P1 := Lib.hid h3
         have L1 := Lib.hid h5
         clear h1 h2 h3 h4 h5))
    · go_wp2_with fail
      go_meet
      exact LCut.new H3.out S3.out NW3.out
    · go_wp2_with fail
      go_meet
      exact LCut.mk' H3.out S3.out ZC.out H2.out.lt NW3.out
    · go_wp2_with fail
      go_meet
      exact LCut.mk' H3.out S3.out ZB.out H1.out.lt NW3.out
    · go_wp2_with fail
      go_meet
      exact LCut.mk' H3.out S3.out ZA.out H0.out.lt NW3.out
  case rest =>
    obtain ⟨X, A2, c2, rfl, hr, hb, hX, hlt, hnw⟩ := hcut
    have NWX := Lib.hid hnw
    clear hnw
    have hx0 : RdX w wc (.slice A k.length c) (.slice B v.length d) X A2 c2 x := ⟨hr, hb, hX⟩
    obtain ⟨p0, p1, p2, p3, p4, p5, p6, p7⟩ := lane_cells hX
    have HX0 := Lib.hid hx0
    have P := Lib.hid (putLane_any A2 c2 x wc hb XB.out)
    clear hr hb hX hx0
    have hXne : ¬ w.heap.size = X := by omega
    generalize putLane x = pl at *
    obtain ⟨k', v', code⟩ := pl
    dsimp only at P HG
    obtain ⟨key, side, cur, next, sc, ceil, sec, nano⟩ := x
    unfold laneV at P
    dsimp only at *
    go_wp2_with fail
    refine P.out.mono ?_
    rintro e w4 ⟨v1, v2, rfl, o1, o2, hb4⟩
    obtain ⟨B1, d1, rfl, q1⟩ := o1.bs
    obtain ⟨B2, d2, rfl, q2⟩ := o2.bs
    have hb5 := below_alloc hb4 (.cells #[.slice B1 k'.length d1, .slice B2 v'.length d2] 47)
    have hb6 := below_alloc (Below.refl w4.heap.size w4) (.cells #[.slice B1 k'.length d1, .slice B2 v'.length d2] 47)
    have hx5 := HX0.out.step hb5
    have m0 := hx5.h.c0
    have m1 := hx5.h.c1
    obtain ⟨p0, p1, p2, p3, p4, p5, p6, p7⟩ := lane_cells hx5.bx
    obtain ⟨r0, r1, r2, r3, r4, r5, r6, r7, z0, z1, z2, z3, z4, z5, z6, z7⟩ := zero_cells hx5.h.r
    obtain ⟨n0, n1, n2, n3, n4, n5, n6, n7, -, -, -, -, -, -, -, -⟩ := zero_cells hx5.h.n
    have H5 := Lib.hid hx5
    have Q1 := Lib.hid (q1.below hb6)
    have Q2 := Lib.hid (q2.below hb6)
    clear o1 o2 hb4 q1 q2 hb5 hb6 hx5
    by_cases hc : code = 0
    · subst hc
      go_wp2_with fail
      refine (bytesEqual B1 A d1 c k' k _ Q1.out (H5.out.h.bs HA.out)).mono ?_
      rintro e w5 ⟨n1, rfl, rfl⟩
      by_cases hk : k' = k
      · have hd : decide (k' = k) = true := decide_eq_true hk
        rw [hd]
        have HK := Lib.hid hk
        clear hk hd
        go_wp2_with fail
        refine (bytesEqual B2 B d2 d v' v _ (Q2.out.drewN n1) ((H5.out.h.drewN n1).bs HB.out)).mono ?_
        rintro e w5 ⟨n2, rfl, rfl⟩
        by_cases hv : v' = v
        · have hd2 : decide (v' = v) = true := decide_eq_true hv
          rw [hd2]
          have hG := HG.out
          rw [if_pos (by refine ⟨?_, HK.out, hv⟩; trivial)] at hG
          subst hG
          clear hv hd2
          have FF := Lib.hid ((H5.out.drewN (n1 + n2)).rb.fill8 A2 key.length c2 side cur next sc ceil sec nano)
          have JJ := Lib.hid (lane_cells FF.out.r)
          unfold fill8 at JJ
          go_wp2_with fail
          obtain ⟨j0, j1, j2, j3, j4, j5, j6, j7⟩ := JJ.out
          exact bodyPost_ret (v := .tuple #[.agg #[.slice A2 key.length c2, .int .i64 side, .int .i64 cur, .int .i64 next, .int .u64 (sc : Int), .int .u64 (ceil : Int), .int .i64 sec, .int .i64 nano], .int .i64 0]) (by simp [results, Tryz.results38, go_sem, j0, j1, j2, j3, j4, j5, j6, j7]) rfl ⟨A2, c2, rfl, FF.out.bs, FF.out.below, NWX.out⟩
        · have hd2 : decide (v' = v) = false := decide_eq_false hv
          rw [hd2]
          have hG := HG.out
          rw [if_neg (fun h => hv h.2.2)] at hG
          subst hG
          clear hv hd2
          have FF := Lib.hid ((H5.out.drewN (n1 + n2)).rb.fill8 none 0 0 0 0 0 0 0 0 0)
          have JJ := Lib.hid (lane_cells FF.out.r)
          unfold fill8 at JJ
          go_wp2_with fail
          obtain ⟨j0, j1, j2, j3, j4, j5, j6, j7⟩ := JJ.out
          exact bodyPost_ret (v := .tuple #[.agg #[.slice none 0 0, .int .i64 0, .int .i64 0, .int .i64 0, .int .u64 0, .int .u64 0, .int .i64 0, .int .i64 0], .int .i64 114]) (by simp [results, Tryz.results38, go_sem, j0, j1, j2, j3, j4, j5, j6, j7]) rfl ⟨none, 0, rfl, Bs.nil _ _ _, FF.out.below, Nw.none _⟩
      · have hd : decide (k' = k) = false := decide_eq_false hk
        rw [hd]
        have hG := HG.out
        rw [if_neg (fun h => hk h.2.1)] at hG
        subst hG
        clear hk hd
        have FF := Lib.hid ((H5.out.drewN n1).rb.fill8 none 0 0 0 0 0 0 0 0 0)
        have JJ := Lib.hid (lane_cells FF.out.r)
        unfold fill8 at JJ
        go_wp2_with fail
        obtain ⟨j0, j1, j2, j3, j4, j5, j6, j7⟩ := JJ.out
        exact bodyPost_ret (v := .tuple #[.agg #[.slice none 0 0, .int .i64 0, .int .i64 0, .int .i64 0, .int .u64 0, .int .u64 0, .int .i64 0, .int .i64 0], .int .i64 114]) (by simp [results, Tryz.results38, go_sem, j0, j1, j2, j3, j4, j5, j6, j7]) rfl ⟨none, 0, rfl, Bs.nil _ _ _, FF.out.below, Nw.none _⟩
    · have hd : (code != 0) = true := by simpa using hc
      have hG := HG.out
      rw [if_neg (fun h => hc h.1)] at hG
      subst hG
      have FF := Lib.hid (H5.out.rb.fill8 none 0 0 0 0 0 0 0 0 0)
      have JJ := Lib.hid (lane_cells FF.out.r)
      unfold fill8 at JJ
      go_wp2_with fail
      obtain ⟨j0, j1, j2, j3, j4, j5, j6, j7⟩ := JJ.out
      exact bodyPost_ret (v := .tuple #[.agg #[.slice none 0 0, .int .i64 0, .int .i64 0, .int .i64 0, .int .u64 0, .int .u64 0, .int .i64 0, .int .i64 0], .int .i64 114]) (by simp [results, Tryz.results38, go_sem, j0, j1, j2, j3, j4, j5, j6, j7]) rfl ⟨none, 0, rfl, Bs.nil _ _ _, FF.out.below, Nw.none _⟩
end Go.Proofs.YtafdhccdjbfepaaGreat.Help
/- The walks of GetLane, Lane, SameLane. -/
namespace Go.Proofs.YtafdhccdjbfepaaGreat.Help
open Go.RowKit Go.Proofs.YtafdhccdjbfepaaGreat.K
set_option linter.unusedVariables false

/-- a box of what came in, and the answer's box of a lane -/
structure LnZ (t : TypeId) (w w' : World) (cs : Array Value) : Prop where
  b : w'.heap[w.heap.size]? = some (.cells cs t (0, 0))
  r : w'.heap[w.heap.size + 1]? = some (.cells (lnC none 0 0 0 0 0 0 0 0 0) 43 (0, 0))
  below : Below w.heap.size w w'
section
variable {t : TypeId} {w w' w2 : World} {cs : Array Value}
theorem LnZ.start (t : TypeId) (w : World) (cs : Array Value) : LnZ t w ((w.alloc (.cells cs t)).alloc (.cells (lnC none 0 0 0 0 0 0 0 0 0) 43)) cs :=
  ⟨blk_alloc (blk_new _ _) _, by have := blk_new (w.alloc (.cells cs t)) (.cells (lnC none 0 0 0 0 0 0 0 0 0) 43); simpa using this, below_alloc (below_alloc (Below.refl _ _) _) _⟩
theorem LnZ.step (h : LnZ t w w' cs) (hb : Below w'.heap.size w' w2) : LnZ t w w2 cs := ⟨(hb.block _ (blk_lt h.b)).trans h.b, (hb.block _ (blk_lt h.r)).trans h.r, below_step h.below hb⟩
theorem LnZ.only {T : Nat → Prop} (h : LnZ t w w' cs) (k : Only w' w2 T) (hT : ∀ i, T i → w.heap.size + 1 < i) : LnZ t w w2 cs :=
  ⟨k.blk h.b (fun h2 => by have := hT _ h2; omega), k.blk h.r (fun h2 => by have := hT _ h2; omega), below_only h.below k (fun i hi => by have := hT i hi; omega)⟩
theorem LnZ.cell (h : LnZ t w w' cs) (j : Nat) : w'.cell? ⟨w.heap.size, j, none⟩ = cs[j]? := blk_cell h.b j
theorem LnZ.bs (h : LnZ t w w' cs) {A : Option Addr} {c : Nat} {l : List UInt8} (hs : Bs w A c l) : Bs w' A c l := hs.below h.below
theorem LnZ.lt (h : LnZ t w w' cs) : w.heap.size + 1 < w'.heap.size := blk_lt h.r
theorem LnZ.rb (h : LnZ t w w' cs) {A : Option Addr} {c : Nat} {key : List UInt8} (hs : Bs w' A c key) : RB w w' (fun _ => False) A c key (w.heap.size + 1) 43 (lnC none 0 0 0 0 0 0 0 0 0) :=
  ⟨h.r, lnC_noU8 _ _ _ _ _ _ _ _ _ _, hs, Only.of_below h.below _, by omega⟩
end

set_option maxRecDepth 100000 in
set_option maxHeartbeats 1000000 in
theorem getLane_any (A B : Option Addr) (c d : Nat) (k v : List UInt8) (w : World) (ha : Bs w A c k) (hb : Bs w B d v) :
    Calls Tryz.prog 19 #[.agg #[.slice A k.length c, .slice B v.length d]] w (GotL w (laneGet k v)) := by
  have H0 := Lib.hid (LnZ.start 47 w #[.slice A k.length c, .slice B v.length d])
  have R := Lib.hid (readLane A B c d k v _ (H0.out.bs ha) (H0.out.bs hb))
  clear ha hb
  generalize laneGet k v = got at *
  obtain ⟨⟨key, side, cur, next, sc, ceil, sec, nano⟩, code⟩ := got
  go_enter Tryz.func19, Tryz.ntmps19
  go_wp2_with fail
  refine R.out.mono ?_
  rintro e w1 ⟨A2, c2, rfl, hs, hb1, hnw⟩
  have NW : Hid (Nw w A2) := Lib.hid (hnw.back (by simp; omega))
  clear hnw
  unfold laneV
  dsimp only at hs ⊢
  have h1 := H0.out.step hb1
  obtain ⟨r0, r1, r2, r3, r4, r5, r6, r7, z0, z1, z2, z3, z4, z5, z6, z7⟩ := zero_cells h1.r
  have FF := Lib.hid ((h1.rb hs).fill8 A2 key.length c2 side cur next sc ceil sec nano)
  have JJ := Lib.hid (lane_cells FF.out.r)
  unfold fill8 at JJ
  clear hb1 hs h1
  go_wp2_with fail
  obtain ⟨j0, j1, j2, j3, j4, j5, j6, j7⟩ := JJ.out
  exact bodyPost_ret (v := .tuple #[.agg #[.slice A2 key.length c2, .int .i64 side, .int .i64 cur, .int .i64 next, .int .u64 (sc : Int), .int .u64 (ceil : Int), .int .i64 sec, .int .i64 nano], .int .i64 code]) (by simp [results, Tryz.results19, go_sem, j0, j1, j2, j3, j4, j5, j6, j7]) rfl ⟨A2, c2, rfl, FF.out.bs, FF.out.below, NW.out⟩

/-- a lane in new memory -/
def LaneC (w : World) (d : LaneD) (e : Ending) (w' : World) : Prop := ∃ A c, e = .returned (laneV A c d) ∧ Bs w' A c d.key ∧ Below w.heap.size w w' ∧ Nw w A
set_option maxRecDepth 100000 in
set_option maxHeartbeats 1000000 in
theorem refLane (A : Option Addr) (c : Nat) (d : LaneD) (w : World) (hs : Bs w A c d.key) :
    Calls Tryz.prog 59 #[laneV A c d] w (LaneC w d) := by
  obtain ⟨key, side, cur, next, sc, ceil, sec, nano⟩ := d
  unfold laneV
  dsimp only at *
  have H0 := Lib.hid (LnZ.start 43 w #[.slice A key.length c, .int .i64 side, .int .i64 cur, .int .i64 next, .int .u64 (sc : Int), .int .u64 (ceil : Int), .int .i64 sec, .int .i64 nano])
  have R := Lib.hid (bytes A c key _ (H0.out.bs hs))
  clear hs
  go_enter Tryz.func59, Tryz.ntmps59
  go_wp2_with fail
  refine R.out.mono ?_
  rintro e w1 ⟨v1, rfl, o1, hb1⟩
  obtain ⟨A2, c2, rfl, s1⟩ := o1.bs
  have h1 := H0.out.step hb1
  have b0 : w1.cell? ⟨w.heap.size, 0, none⟩ = some (.slice A key.length c) := h1.cell 0
  have b1 : w1.cell? ⟨w.heap.size, 1, none⟩ = some (.int .i64 side) := h1.cell 1
  have b2 : w1.cell? ⟨w.heap.size, 2, none⟩ = some (.int .i64 cur) := h1.cell 2
  have b3 : w1.cell? ⟨w.heap.size, 3, none⟩ = some (.int .i64 next) := h1.cell 3
  have b4 : w1.cell? ⟨w.heap.size, 4, none⟩ = some (.int .u64 (sc : Int)) := h1.cell 4
  have b5 : w1.cell? ⟨w.heap.size, 5, none⟩ = some (.int .u64 (ceil : Int)) := h1.cell 5
  have b6 : w1.cell? ⟨w.heap.size, 6, none⟩ = some (.int .i64 sec) := h1.cell 6
  have b7 : w1.cell? ⟨w.heap.size, 7, none⟩ = some (.int .i64 nano) := h1.cell 7
  have b8 := blk_free h1.b 0
  obtain ⟨r0, r1, r2, r3, r4, r5, r6, r7, z0, z1, z2, z3, z4, z5, z6, z7⟩ := zero_cells h1.r
  have NW : Hid (Nw w A2) := Lib.hid (Own.nw o1 (by simp; omega))
  have s2 : Bs (w1.setCell ⟨w.heap.size, 0, none⟩ (.slice A2 key.length c2)) A2 c2 key :=
    bs_only s1 ((Only.refl w1 (fun k => k = w.heap.size)).setCell (p := ⟨w.heap.size, 0, none⟩) (.inl rfl) _) (fun i hi _ => by
      rw [hi]; exact NoU8.of h1.b (lnC_noU8 A key.length c side cur next sc ceil sec nano))
  have hb2 : Below w.heap.size w (w1.setCell ⟨w.heap.size, 0, none⟩ (.slice A2 key.length c2)) := h1.below.setCell (p := ⟨w.heap.size, 0, none⟩) (Nat.le_refl _) _
  have q0 : RB w (w1.setCell ⟨w.heap.size, 0, none⟩ (.slice A2 key.length c2)) (fun _ => False) A2 c2 key (w.heap.size + 1) 43 (lnC none 0 0 0 0 0 0 0 0 0) :=
    ⟨blk_far h1.r (by simp) _, lnC_noU8 _ _ _ _ _ _ _ _ _ _, s2, Only.of_below hb2 _, by omega⟩
  have FF := Lib.hid (q0.fill8 A2 key.length c2 side cur next sc ceil sec nano)
  have JJ := Lib.hid (lane_cells FF.out.r)
  unfold fill8 at JJ
  clear hb1 o1 s1 h1 s2 hb2 q0
  go_wp2_with fail
  obtain ⟨j0, j1, j2, j3, j4, j5, j6, j7⟩ := JJ.out
  exact bodyPost_ret (v := .agg #[.slice A2 key.length c2, .int .i64 side, .int .i64 cur, .int .i64 next, .int .u64 (sc : Int), .int .u64 (ceil : Int), .int .i64 sec, .int .i64 nano]) (by simp [results, Tryz.results59, go_sem, j0, j1, j2, j3, j4, j5, j6, j7]) rfl ⟨A2, c2, rfl, FF.out.bs, FF.out.below, NW.out⟩
end Go.Proofs.YtafdhccdjbfepaaGreat.Help
/- The walk of SameLane over two lanes of the same data. -/
namespace Go.Proofs.YtafdhccdjbfepaaGreat.Help
open Go.RowKit Go.Proofs.YtafdhccdjbfepaaGreat.K
set_option linter.unusedVariables false

theorem sameStamp_refl (sec nano : Int) (w : World) : Calls Tryz.prog 46 #[.agg #[.int .i64 sec, .int .i64 nano], .agg #[.int .i64 sec, .int .i64 nano]] w (Pure w (.bool true)) := by
  go_enter Tryz.func46, Tryz.ntmps46
  go_wp2_with fail
  go_ret
  exact ⟨rfl, below_alloc (below_alloc (Below.refl _ _) _) _⟩
/-- two lanes' boxes -/
structure LL (w W : World) (x y : Array Value) : Prop where
  a : W.heap[w.heap.size]? = some (.cells x 43 (0, 0))
  b : W.heap[w.heap.size + 1]? = some (.cells y 43 (0, 0))
  below : Below w.heap.size w W
theorem LL.start (w : World) (x y : Array Value) : LL w ((w.alloc (.cells x 43)).alloc (.cells y 43)) x y :=
  ⟨blk_alloc (blk_new _ _) _, by have := blk_new (w.alloc (.cells x 43)) (.cells y 43); simpa using this, below_alloc (below_alloc (Below.refl _ _) _) _⟩
theorem LL.step {w W w2 : World} {x y : Array Value} (h : LL w W x y) (hb : Below W.heap.size W w2) : LL w w2 x y := ⟨(hb.block _ (blk_lt h.a)).trans h.a, (hb.block _ (blk_lt h.b)).trans h.b, below_step h.below hb⟩
theorem LL.drewN {w W : World} {x y : Array Value} (h : LL w W x y) (n : Nat) : LL w (W.drewN n) x y := ⟨h.a, h.b, below_drewN h.below n⟩
set_option maxRecDepth 100000 in
set_option maxHeartbeats 1000000 in
theorem sameLane_refl (A B : Option Addr) (a b : Nat) (d : LaneD) (w : World) (h1 : Bs w A a d.key) (h2 : Bs w B b d.key) :
    Calls Tryz.prog 20 #[laneV A a d, laneV B b d] w (Pure w (.bool true)) := by
  obtain ⟨key, side, cur, next, sc, ceil, sec, nano⟩ := d
  unfold laneV
  dsimp only at *
  have H0 := Lib.hid (LL.start w #[.slice A key.length a, .int .i64 side, .int .i64 cur, .int .i64 next, .int .u64 (sc : Int), .int .u64 (ceil : Int), .int .i64 sec, .int .i64 nano] #[.slice B key.length b, .int .i64 side, .int .i64 cur, .int .i64 next, .int .u64 (sc : Int), .int .u64 (ceil : Int), .int .i64 sec, .int .i64 nano])
  have T1 := Lib.hid (sameBytes A B a b key key _ (h1.below H0.out.below) (h2.below H0.out.below))
  rw [show decide (key = key) = true from decide_eq_true rfl] at T1
  clear h1 h2
  go_enter Tryz.func20, Tryz.ntmps20
  go_wp2_with fail
  refine T1.out.mono ?_
  rintro e w1 ⟨n1, rfl, rfl⟩
  clear T1
  generalize (w.alloc (.cells #[.slice A key.length a, .int .i64 side, .int .i64 cur, .int .i64 next, .int .u64 (sc : Int), .int .u64 (ceil : Int), .int .i64 sec, .int .i64 nano] 43)).alloc (.cells #[.slice B key.length b, .int .i64 side, .int .i64 cur, .int .i64 next, .int .u64 (sc : Int), .int .u64 (ceil : Int), .int .i64 sec, .int .i64 nano] 43) = W0 at H0 ⊢
  obtain ⟨p0, p1, p2, p3, p4, p5, p6, p7⟩ := lane_cells H0.out.a
  obtain ⟨q0, q1, q2, q3, q4, q5, q6, q7⟩ := lane_cells H0.out.b
  obtain ⟨r0, r1, r2, r3, r4, r5, r6, r7⟩ := lane_cells (H0.out.drewN n1).a
  obtain ⟨s0, s1, s2, s3, s4, s5, s6, s7⟩ := lane_cells (H0.out.drewN n1).b
  go_wp2_with fail
  refine (sameStamp_refl sec nano _).mono ?_
  rintro e w2 ⟨rfl, hb2⟩
  have h3 := (H0.out.drewN n1).step hb2
  obtain ⟨p0, p1, p2, p3, p4, p5, p6, p7⟩ := lane_cells h3.a
  obtain ⟨q0, q1, q2, q3, q4, q5, q6, q7⟩ := lane_cells h3.b
  have HB3 := Lib.hid h3.below
  clear hb2 h3
  go_wp2_with fail
  go_ret
  exact ⟨rfl, HB3.out⟩

set_option maxRecDepth 100000 in
theorem num_any (x : Int) (w : World) : Calls Tryz.prog 21 #[.int .i64 x] w fun e w' => e = .returned (.int .i64 x) ∧ w = w' := by
  go_enter Tryz.func21, Tryz.ntmps21
  go_wp2_with fail
  go_ret
  exact ⟨rfl, rfl⟩
/-- a row in new memory -/
def RowC (w : World) (k v : List UInt8) (e : Ending) (w' : World) : Prop := ∃ A a B b, e = .returned (.agg #[.slice A k.length a, .slice B v.length b]) ∧ Bs w' A a k ∧ Bs w' B b v ∧ Below w.heap.size w w'
theorem noU8_2 (x y : Value) (hx : ∀ b, x ≠ .int .u8 b) (hy : ∀ b, y ≠ .int .u8 b) : ∀ (j : Nat) (b : Int), (#[x, y] : Array Value)[j]? ≠ some (.int .u8 b) := by
  intro j b e
  match j with
  | 0 => simp at e; exact hx b e
  | 1 => simp at e; exact hy b e
  | (j + 2) => simp at e
theorem rowc_done {t : TypeId} {w w2 : World} {cs : Array Value} {A1 A2 : Option Addr} {c1 c2 : Nat} {k v : List UInt8} (h : LnS t w w2 cs) (s1 : Bs w2 A1 c1 k) (s2 : Bs w2 A2 c2 v) :
    RowC w k v (.returned (.agg #[.slice A1 k.length c1, .slice A2 v.length c2])) ((w2.setCell ⟨w.heap.size + 1, 0, none⟩ (.slice A1 k.length c1)).setCell ⟨w.heap.size + 1, 1, none⟩ (.slice A2 v.length c2)) := by
  have ho : Only w2 ((w2.setCell ⟨w.heap.size + 1, 0, none⟩ (.slice A1 k.length c1)).setCell ⟨w.heap.size + 1, 1, none⟩ (.slice A2 v.length c2)) (fun k => k = w.heap.size + 1) :=
    ((Only.refl w2 (fun k => k = w.heap.size + 1)).setCell (p := ⟨w.heap.size + 1, 0, none⟩) (.inl rfl) _).setCell (p := ⟨w.heap.size + 1, 1, none⟩) (.inl rfl) _
  have hn : ∀ i, i = w.heap.size + 1 → i < w2.heap.size → NoU8 w2 i := fun i hi _ => by rw [hi]; exact NoU8.of h.r (noU8_2 _ _ (by intro b e; cases e) (by intro b e; cases e))
  exact ⟨A1, c1, A2, c2, rfl, bs_only s1 ho hn, bs_only s2 ho hn, below_only h.below ho (fun i hi => by rw [hi]; omega)⟩
set_option maxRecDepth 100000 in
set_option maxHeartbeats 1000000 in
theorem key_any (x : UInt8) (w : World) : Calls Tryz.prog 17 #[.int .u8 (x.toNat : Int)] w (Ret w (List.replicate 32 x)) := by
  go_enter Tryz.func17, Tryz.ntmps17
  go_wp2_with fail
  go_loopg [3, 4] 32 (fun gk v i wr => ∃ k : Nat, k ≤ 32 ∧ gk = 32 - k ∧ i = .int .i64 (k : Int) ∧ Own wr w.heap.size v (List.replicate k x) ∧ Below w.heap.size w wr)
  case atStart => exact ⟨0, by omega, rfl, rfl, by simpa using Own.nil w _, Below.refl _ _⟩
  case round =>
    obtain ⟨k, hk, rfl, rfl, hO, hB⟩ := hrel
    obtain ⟨VA, vc, rfl, _⟩ := hO.bs
    have hlk : (List.replicate k x).length = k := List.length_replicate
    have HO := Lib.hid hO
    have HB := Lib.hid hB
    clear hO hB
    rw [hlk] at HO
    rw [hlk]
    by_cases hlt : k < 32
    · have hlt2 : (k : Int) < 32 := by omega
      have HX := Lib.hid (show List.replicate k x ++ [x] = List.replicate (k + 1) x from List.replicate_succ'.symm)
      have HK := Lib.hid hlk
      clear hlk
      go_wp2_with (at_builtin; refine push_u8 (W0 := w) rfl (.tmp 9) (.tmp 11) rfl (.slice VA k vc) (List.replicate k x) x rfl rfl HO.out HB.out (by rw [HK.out]; omega) ?_; intro A1 c1 w1 hO1 hB1; rw [HK.out] at hO1 ⊢; have HO1 := Lib.hid hO1; have HB1 := Lib.hid hB1; clear hO1 hB1)
      go_roundg (32 - (k + 1))
      case measure => omega
      case rel =>
        refine ⟨k + 1, by omega, rfl, by go_num, ?_, HB1.out⟩
        rw [← HX.out]; exact HO1.out
    · obtain rfl : k = 32 := by omega
      go_wp2_with fail
      go_ret
      exact ⟨_, rfl, by have := HO.out; rwa [← hlk] at this, HB.out⟩
end Go.Proofs.YtafdhccdjbfepaaGreat.Help
/- Plain: what the readers tell of a lane's row. -/
namespace Go.Proofs.YtafdhccdjbfepaaGreat.Help
open Go.RowKit Go.Proofs.YtafdhccdjbfepaaGreat.K
set_option linter.unusedVariables false

theorem val_cons (b : UInt8) (l : List UInt8) : val (b :: l) = b.toNat * 256 ^ l.length + val l := by
  have aux : ∀ (l : List UInt8) (x : Nat), l.foldl (fun x b => x * 256 + b.toNat) x = x * 256 ^ l.length + l.foldl (fun x b => x * 256 + b.toNat) 0 := by
    intro l
    induction l with
    | nil => intro x; simp
    | cons c l ih =>
      intro x
      simp only [List.foldl_cons, List.length_cons]
      rw [ih (x * 256 + c.toNat), ih (0 * 256 + c.toNat), Nat.pow_succ, Nat.add_mul, Nat.add_mul]
      have : x * 256 * 256 ^ l.length = x * (256 ^ l.length * 256) := by rw [Nat.mul_assoc, Nat.mul_comm 256]
      omega
  unfold val
  rw [List.foldl_cons, aux l (0 * 256 + b.toNat)]
  simp
theorem val_be (n x : Nat) : val (be n x) = x % 256 ^ n := by
  induction n with
  | zero => simp [be, val, Nat.mod_one]
  | succ n ih =>
    rw [be, val_cons, ih, be_len, Nat.mod_pow_succ]
    have : 2 ^ (8 * n) = 256 ^ n := by rw [Nat.pow_mul]
    rw [this]
    have h2 : (UInt8.ofNat (x / 256 ^ n)).toNat = x / 256 ^ n % 256 := by simp
    rw [h2, Nat.mul_comm]
    omega
theorem takes_ok {L : List UInt8} {p n : Nat} (h : p + n ≤ L.length) : takes L p n 0 = (cutN L p n, true, p + n, 0) := by
  unfold takes
  rw [if_neg (by simp), if_neg (by omega)]
theorem cut_mid (A B C : List UInt8) {p n : Nat} (hp : A.length = p) (hn : B.length = n) : cutN (A ++ (B ++ C)) p n = B := by
  unfold cutN
  subst hp hn
  rw [List.drop_left, List.take_left]
theorem laneRd_len {k v : List UInt8} (hk : k.length = 33) (hv : v.length = 37) :
    laneRd k v = ⟨k.drop 1, val (cutN v 0 1), val (cutN v 1 4), val (cutN v 5 4), val (cutN v 9 8), val (cutN v 17 8), (stGet (v.drop 25)).1, (stGet (v.drop 25)).2.1⟩ := by
  unfold laneRd
  have e0 : takes k 0 1 0 = (cutN k 0 1, true, 1, 0) := takes_ok (by omega)
  have e1 : takes v 0 1 0 = (cutN v 0 1, true, 1, 0) := takes_ok (by omega)
  have e2 : takes v 1 4 0 = (cutN v 1 4, true, 5, 0) := takes_ok (by omega)
  have e3 : takes v 5 4 0 = (cutN v 5 4, true, 9, 0) := takes_ok (by omega)
  have e4 : takes v 9 8 0 = (cutN v 9 8, true, 17, 0) := takes_ok (by omega)
  have e5 : takes v 17 8 0 = (cutN v 17 8, true, 25, 0) := takes_ok (by omega)
  have l0 : Left k 1 0 = 32 := by unfold Left; simp; omega
  have l5 : Left v 25 0 = 12 := by unfold Left; simp; omega
  have e6 : takes v 25 12 0 = (cutN v 25 12, true, 37, 0) := takes_ok (by omega)
  have ek : takes k 1 32 0 = (cutN k 1 32, true, 33, 0) := takes_ok (by omega)
  have c1 : cutN k 1 32 = k.drop 1 := List.take_of_length_le (by rw [List.length_drop]; omega)
  have c2 : cutN v 25 12 = v.drop 25 := List.take_of_length_le (by rw [List.length_drop]; omega)
  simp only [e0, e1, e2, e3, e4, e5, e6, ek, l0, l5, c1, c2]
theorem laneGet_bad {k v : List UInt8} (h : k.length ≠ 33 ∨ v.length ≠ 37) : laneGet k v = (zeroLane, 114) := by
  refine if_neg (fun hh => ?_)
  have := putLane_len hh.1
  rw [hh.2.1, hh.2.2] at this
  omega
theorem stGet_put {sec nano : Nat} (h1 : sec ≤ 9223372036854775807) (h2 : nano ≤ 999999999) : stGet (stPut sec nano) = ((sec : Int), (nano : Int), 0) := by
  unfold stGet
  have e1 : (stPut sec nano).take 8 = be 8 sec := by unfold stPut; rw [List.take_append_of_le_length (by rw [be_len]; omega), List.take_of_length_le (by rw [be_len]; omega)]
  have e2 : (stPut sec nano).drop 8 = be 4 nano := by unfold stPut; rw [List.drop_append_of_le_length (by rw [be_len]; omega), List.drop_of_length_le (by rw [be_len]; omega)]; rfl
  have v1 : val (be 8 sec) = sec := by rw [val_be, Nat.mod_eq_of_lt (by omega)]
  have v2 : val (be 4 nano) = nano := by rw [val_be, Nat.mod_eq_of_lt (by omega)]
  rw [if_pos (stPut_len ..), e1, e2, v1, v2, if_neg (by omega)]
/-- P15.3 for lanes: Get behind Put -/
theorem laneGet_put {d : LaneD} (hd : LaneB d) (h : laneOk d) : laneGet (putLane d).1 (putLane d).2.1 = (d, 0) := by
  have hp := putLane_yes h
  obtain ⟨key, side, cur, next, sc, ceil, sec, nano⟩ := d
  obtain ⟨b1, b2, b3⟩ := hd
  dsimp only at b1 b2 b3
  obtain ⟨g1, g2, g3, g4, g5, g6, hv⟩ := h
  dsimp only at g1 g2 g3 g4 g5 g6 hv
  have hst : 0 ≤ sec ∧ 0 ≤ nano ∧ nano ≤ 999999999 := by unfold stV at hv; simp at hv; omega
  obtain ⟨cu, rfl⟩ : ∃ n : Nat, cur = n := ⟨cur.toNat, by omega⟩
  obtain ⟨ne, rfl⟩ : ∃ n : Nat, next = n := ⟨next.toNat, by omega⟩
  obtain ⟨se, rfl⟩ : ∃ n : Nat, sec = n := ⟨sec.toNat, by omega⟩
  obtain ⟨na, rfl⟩ : ∃ n : Nat, nano = n := ⟨nano.toNat, by omega⟩
  obtain ⟨sd, rfl, hsd⟩ : ∃ n : Nat, side = n ∧ n ≤ 1 := ⟨side.toNat, by omega, by omega⟩
  dsimp only [Int.toNat_natCast] at hp
  have hr : laneRd (putLane ⟨key, sd, cu, ne, sc, ceil, se, na⟩).1 (putLane ⟨key, sd, cu, ne, sc, ceil, se, na⟩).2.1 = ⟨key, sd, cu, ne, sc, ceil, se, na⟩ := by
    rw [hp]
    dsimp only
    rw [laneRd_len (by simp [g1]) (laneVal_len ..)]
    have ev : laneVal sd cu ne sc ceil se na = [] ++ ([UInt8.ofNat sd] ++ (be 4 cu ++ (be 4 ne ++ (be 8 sc ++ (be 8 ceil ++ stPut se na))))) := by simp [laneVal]
    have c0 : cutN (laneVal sd cu ne sc ceil se na) 0 1 = [UInt8.ofNat sd] := by rw [ev]; exact cut_mid [] _ _ rfl rfl
    have c1 : cutN (laneVal sd cu ne sc ceil se na) 1 4 = be 4 cu := by
      rw [ev, List.nil_append]; exact cut_mid [UInt8.ofNat sd] _ _ rfl (be_len _ _)
    have c2 : cutN (laneVal sd cu ne sc ceil se na) 5 4 = be 4 ne := by
      rw [ev, List.nil_append, ← List.append_assoc]; exact cut_mid ([UInt8.ofNat sd] ++ be 4 cu) _ _ (by simp [be_len]) (be_len _ _)
    have c3 : cutN (laneVal sd cu ne sc ceil se na) 9 8 = be 8 sc := by
      rw [ev, List.nil_append, ← List.append_assoc, ← List.append_assoc]; exact cut_mid ([UInt8.ofNat sd] ++ be 4 cu ++ be 4 ne) _ _ (by simp [be_len]) (be_len _ _)
    have c4 : cutN (laneVal sd cu ne sc ceil se na) 17 8 = be 8 ceil := by
      rw [ev, List.nil_append, ← List.append_assoc, ← List.append_assoc, ← List.append_assoc]; exact cut_mid ([UInt8.ofNat sd] ++ be 4 cu ++ be 4 ne ++ be 8 sc) _ _ (by simp [be_len]) (be_len _ _)
    have c5 : (laneVal sd cu ne sc ceil se na).drop 25 = stPut se na := by
      have : laneVal sd cu ne sc ceil se na = ([UInt8.ofNat sd] ++ be 4 cu ++ be 4 ne ++ be 8 sc ++ be 8 ceil) ++ stPut se na := by simp [laneVal]
      rw [this]; exact List.drop_left' (by simp [be_len])
    rw [c0, c1, c2, c3, c4, c5, stGet_put (by omega) (by omega)]
    have v0 : val [UInt8.ofNat sd] = sd := by
      simp [val]; omega
    rw [v0, val_be, val_be, val_be, val_be, Nat.mod_eq_of_lt (by omega), Nat.mod_eq_of_lt (by omega), Nat.mod_eq_of_lt (by omega), Nat.mod_eq_of_lt (by omega)]
    simp
  unfold laneGet
  rw [hr]
  exact if_pos ⟨by rw [hp], rfl, rfl⟩
end Go.Proofs.YtafdhccdjbfepaaGreat.Help
/- The walk of the document's Addr: the address that bytes say. -/
namespace Go.Proofs.YtafdhccdjbfepaaGreat.Pfx
open Go.RowKit Go.Proofs.YtafdhccdjbfepaaGreat.K Go.Proofs.YtafdhccdjbfepaaGreat.Help
set_option linter.unusedVariables false

def adC (fam : Int) (hi lo : Nat) : Array Value := #[.int .i64 fam, .int .u64 (hi : Int), .int .u64 (lo : Int)]
theorem adC_noU8 (fam : Int) (hi lo : Nat) : ∀ (j : Nat) (b : Int), (adC fam hi lo)[j]? ≠ some (.int .u8 b) :=
  noU8_3 _ _ _ (by intro b e; cases e) (by intro b e; cases e) (by intro b e; cases e)
/-- Addr's memory -/
structure AdS (w wr : World) (A : Option Addr) (c : Nat) (l : List UInt8) (fam : Int) (hi lo : Nat) : Prop where
  r : wr.heap[w.heap.size]? = some (.cells (adC 0 0 0) 108 (0, 0))
  a : wr.heap[w.heap.size + 1]? = some (.cells (adC fam hi lo) 108 (0, 0))
  bs : Bs wr A c l
  below : Below w.heap.size w wr
section
variable {w wr : World} {A : Option Addr} {c : Nat} {l : List UInt8} {fam : Int} {hi lo : Nat}
theorem AdS.drewN (h : AdS w wr A c l fam hi lo) (n : Nat) : AdS w (wr.drewN n) A c l fam hi lo := ⟨h.r, h.a, h.bs.drewN n, below_drewN h.below n⟩
theorem AdS.set (h : AdS w wr A c l fam hi lo) (j : Nat) (u : Value) {f2 : Int} {h2 l2 : Nat} (e : (adC fam hi lo).setIfInBounds j u = adC f2 h2 l2) : AdS w (wr.setCell ⟨w.heap.size + 1, j, none⟩ u) A c l f2 h2 l2 := by
  have o : Only wr (wr.setCell ⟨w.heap.size + 1, j, none⟩ u) (fun k => k = w.heap.size + 1) := (Only.refl wr (fun k => k = w.heap.size + 1)).setCell (p := ⟨w.heap.size + 1, j, none⟩) (.inl rfl) u
  exact ⟨o.blk h.r (by omega), by rw [← e]; exact blk_set h.a j u, bs_only h.bs o (fun i hi _ => by rw [hi]; exact NoU8.of h.a (adC_noU8 _ _ _)), below_only h.below o (fun i hi => by rw [hi]; omega)⟩
end
theorem AdS.start {w : World} {A : Option Addr} {c : Nat} {l : List UInt8} (h : Bs w A c l) (fam : Int) : AdS w ((w.alloc (.cells (adC 0 0 0) 108)).alloc (.cells (adC fam 0 0) 108)) A c l fam 0 0 :=
  ⟨blk_alloc (blk_new _ _) _, by have := blk_new (w.alloc (.cells (adC 0 0 0) 108)) (.cells (adC fam 0 0) 108); simpa using this, h.below (below_alloc (below_alloc (Below.refl _ _) _) _), below_alloc (below_alloc (Below.refl _ _) _) _⟩
theorem or_nat (v b : Nat) (hv : v < 72057594037927936) (hb : b < 256) : bor (v * 256) b = v * 256 + b := by
  unfold bor
  have := Nat.shiftLeft_add_eq_or_of_lt (i := 8) (b := b) (by omega) v
  rw [Nat.shiftLeft_eq] at this
  simpa using this.symm
theorem or_int (v b : Nat) (hv : v < 72057594037927936) (hb : b < 256) (x y : Int) (hx : x = ((v * 256 : Nat) : Int)) (hy : y = (b : Int)) : bits .or .u64 x y = ((v * 256 + b : Nat) : Int) := by
  rw [hx, hy, bor_eq (a := v * 256) (b := b) (by unfold B64; omega) (by unfold B64; omega), or_nat v b hv hb]
/-- the answer's box filled -/
theorem AdS.fin {w wr : World} {A : Option Addr} {c : Nat} {l : List UInt8} {fam : Int} {hi lo : Nat} (h : AdS w wr A c l fam hi lo) (f2 : Int) (h2 l2 : Nat) :
    Hid ((((wr.setCell ⟨w.heap.size, 0, none⟩ (.int .i64 f2)).setCell ⟨w.heap.size, 1, none⟩ (.int .u64 (h2 : Int))).setCell ⟨w.heap.size, 2, none⟩ (.int .u64 (l2 : Int))).heap[w.heap.size]? = some (.cells (adC f2 h2 l2) 108 (0, 0))
     ∧ Below w.heap.size w (((wr.setCell ⟨w.heap.size, 0, none⟩ (.int .i64 f2)).setCell ⟨w.heap.size, 1, none⟩ (.int .u64 (h2 : Int))).setCell ⟨w.heap.size, 2, none⟩ (.int .u64 (l2 : Int)))) := by
  refine ⟨?_, ((h.below.setCell (p := ⟨w.heap.size, 0, none⟩) (Nat.le_refl _) _).setCell (p := ⟨w.heap.size, 1, none⟩) (Nat.le_refl _) _).setCell (p := ⟨w.heap.size, 2, none⟩) (Nat.le_refl _) _⟩
  have b0 := blk_set h.r 0 (.int .i64 f2)
  have b1 := blk_set b0 1 (.int .u64 (h2 : Int))
  have b2 := blk_set b1 2 (.int .u64 (l2 : Int))
  simpa [adC] using b2
set_option maxRecDepth 100000 in
set_option maxHeartbeats 1000000 in
theorem refAddr_4 (A : Option Addr) (c : Nat) (l : List UInt8) (w : World) (ha : Bs w A c l) (h4 : l.length = 4) :
    Calls Tryz.prog 118 #[.slice A l.length c] w (Pure w (.agg (adC 4 (val l / 18446744073709551616) (val l % 18446744073709551616)))) := by
  have hl16 : l.length ≤ 16 := by omega
  have e4 : ((l.length : Int) == 4) = true := by rw [beq_iff_eq]; omega
  clear h4
  have H1 := Lib.hid (AdS.start ha 4)
  clear ha
  go_enter Tryz.func118, Tryz.ntmps118
  go_wp2_with fail
  go_loopg [4] l.length (fun gk i wr => ∃ k : Nat, k ≤ l.length ∧ gk = l.length - k ∧ i = .int .i64 (k : Int) ∧ ∃ hi lo : Nat, AdS w wr A c l 4 hi lo ∧ lo < 18446744073709551616 ∧ Hid (hi * 18446744073709551616 + lo = val (l.take k)))
  case atStart => exact ⟨0, by omega, rfl, rfl, 0, 0, H1.out, by decide, rfl⟩
  case round =>
    obtain ⟨k, hk, rfl, rfl, hi, lo, hS, hl, HV⟩ := hrel
    have d1 : wr.cell? ⟨w.heap.size + 1, 1, none⟩ = some (.int .u64 (hi : Int)) := blk_cell hS.a 1
    have d2 : wr.cell? ⟨w.heap.size + 1, 2, none⟩ = some (.int .u64 (lo : Int)) := blk_cell hS.a 2
    have f1 := blk_free hS.a 1
    have f2 := blk_free hS.a 2
    have HS := Lib.hid hS
    by_cases hlt : k < l.length
    · have hlt2 : (k : Int) < l.length := by omega
      have hh : hi < 72057594037927936 := by
        have h1 := val_lt (l.take k)
        rw [← HV.out, List.length_take] at h1
        have h2 : 256 ^ min k l.length ≤ 256 ^ 15 := Nat.pow_le_pow_right (by omega) (by omega)
        have h3 : (256 : Nat) ^ 15 = 1329227995784915872903807060280344576 := rfl
        omega
      have hor1 := or_int hi (lo / 72057594037927936) hh (by omega) ((hi : Int) * 256) ((lo : Int) / 72057594037927936) (by omega) (by omega)
      generalize hh2 : hi * 256 + lo / 72057594037927936 = hi2 at hor1
      have hS2 := hS.set 1 (.int .u64 (hi2 : Int)) (f2 := 4) (h2 := hi2) (l2 := lo) rfl
      obtain ⟨ad, rfl, hadb, c1⟩ := hS2.bs.at_ k hlt
      have hb := (l.getD k 0).toNat_lt
      have HB := Lib.hid (take_snoc8 hlt)
      have HS2 := Lib.hid hS2
      have HH2 := Lib.hid hh2
      clear hS hS2 hh2
      generalize l.getD k 0 = y at *
      have hor2 := or_int (lo % 72057594037927936) y.toNat (by omega) hb (IntKind.u64.wrap ((lo : Int) * 256)) (y.toNat : Int) (by rw [IntKind.wrap_u64]; omega) rfl
      generalize hl2 : lo % 72057594037927936 * 256 + y.toNat = lo2 at hor2
      have HN : Hid (hi2 * 18446744073709551616 + lo2 = val (l.take (k + 1)) ∧ lo2 < 18446744073709551616) := by
        rw [Hid, HB.out, val_snoc, ← HV.out]
        have := HH2.out
        omega
      have HS3 := Lib.hid (HS2.out.set 2 (.int .u64 (lo2 : Int)) (f2 := 4) (h2 := hi2) (l2 := lo2) rfl)
      clear hl2
      go_wp2_with fail
      go_region
      all_goals
        go_wp2_with fail
        go_roundg (l.length - (k + 1))
        case measure => omega
        case rel => exact ⟨k + 1, by omega, rfl, by go_num, hi2, lo2, HS3.out.drewN 1, HN.out.2, HN.out.1⟩
    · obtain rfl : k = l.length := by omega
      have HV2 : Hid (hi = val l / 18446744073709551616 ∧ lo = val l % 18446744073709551616) := by
        have := HV.out
        rw [List.take_of_length_le (Nat.le_refl _)] at this
        rw [Hid]
        omega
      have d0 : wr.cell? ⟨w.heap.size + 1, 0, none⟩ = some (.int .i64 4) := blk_cell hS.a 0
      have r0 : wr.cell? ⟨w.heap.size, 0, none⟩ = some (.int .i64 0) := blk_cell hS.r 0
      have r1 : wr.cell? ⟨w.heap.size, 1, none⟩ = some (.int .u64 0) := blk_cell hS.r 1
      have r2 : wr.cell? ⟨w.heap.size, 2, none⟩ = some (.int .u64 0) := blk_cell hS.r 2
      have z0 := blk_free hS.r 0
      have z1 := blk_free hS.r 1
      have z2 := blk_free hS.r 2
      have FF := hS.fin 4 hi lo
      have HF := Lib.hid FF.out.2
      have y0 : (wr.setCell ⟨w.heap.size, 0, none⟩ (.int .i64 4)).cell? ⟨w.heap.size, 0, none⟩ = some (.int .i64 4) := blk_cell (blk_set hS.r 0 (.int .i64 4)) 0
      have y1 : ((wr.setCell ⟨w.heap.size, 0, none⟩ (.int .i64 4)).setCell ⟨w.heap.size, 1, none⟩ (.int .u64 (hi : Int))).cell? ⟨w.heap.size, 1, none⟩ = some (.int .u64 (hi : Int)) := blk_cell (blk_set (blk_set hS.r 0 (.int .i64 4)) 1 (.int .u64 (hi : Int))) 1
      have y2 : (((wr.setCell ⟨w.heap.size, 0, none⟩ (.int .i64 4)).setCell ⟨w.heap.size, 1, none⟩ (.int .u64 (hi : Int))).setCell ⟨w.heap.size, 2, none⟩ (.int .u64 (lo : Int))).cell? ⟨w.heap.size, 2, none⟩ = some (.int .u64 (lo : Int)) := blk_cell (blk_set (blk_set (blk_set hS.r 0 (.int .i64 4)) 1 (.int .u64 (hi : Int))) 2 (.int .u64 (lo : Int))) 2
      have YY := Lib.hid (And.intro y0 (And.intro y1 y2))
      clear hS y0 y1 y2
      go_wp2_with fail
      obtain ⟨y0, y1, y2⟩ := YY.out
      exact bodyPost_ret (v := .agg (adC 4 hi lo)) (by simp [results, Tryz.results118, go_sem, y0, y1, y2, adC]) rfl ⟨by obtain ⟨rfl, rfl⟩ := HV2.out; rfl, HF.out⟩
set_option maxRecDepth 100000 in
set_option maxHeartbeats 1000000 in
theorem refAddr_16 (A : Option Addr) (c : Nat) (l : List UInt8) (w : World) (ha : Bs w A c l) (h16 : l.length = 16) :
    Calls Tryz.prog 118 #[.slice A l.length c] w (Pure w (.agg (adC 6 (val l / 18446744073709551616) (val l % 18446744073709551616)))) := by
  have hl16 : l.length ≤ 16 := by omega
  have e4 : ((l.length : Int) == 4) = false := by simp; omega
  clear h16
  have H1 := Lib.hid (AdS.start ha 6)
  clear ha
  go_enter Tryz.func118, Tryz.ntmps118
  go_wp2_with fail
  go_loopg [4] l.length (fun gk i wr => ∃ k : Nat, k ≤ l.length ∧ gk = l.length - k ∧ i = .int .i64 (k : Int) ∧ ∃ hi lo : Nat, AdS w wr A c l 6 hi lo ∧ lo < 18446744073709551616 ∧ Hid (hi * 18446744073709551616 + lo = val (l.take k)))
  case atStart => exact ⟨0, by omega, rfl, rfl, 0, 0, H1.out, by decide, rfl⟩
  case round =>
    obtain ⟨k, hk, rfl, rfl, hi, lo, hS, hl, HV⟩ := hrel
    have d1 : wr.cell? ⟨w.heap.size + 1, 1, none⟩ = some (.int .u64 (hi : Int)) := blk_cell hS.a 1
    have d2 : wr.cell? ⟨w.heap.size + 1, 2, none⟩ = some (.int .u64 (lo : Int)) := blk_cell hS.a 2
    have f1 := blk_free hS.a 1
    have f2 := blk_free hS.a 2
    have HS := Lib.hid hS
    by_cases hlt : k < l.length
    · have hlt2 : (k : Int) < l.length := by omega
      have hh : hi < 72057594037927936 := by
        have h1 := val_lt (l.take k)
        rw [← HV.out, List.length_take] at h1
        have h2 : 256 ^ min k l.length ≤ 256 ^ 15 := Nat.pow_le_pow_right (by omega) (by omega)
        have h3 : (256 : Nat) ^ 15 = 1329227995784915872903807060280344576 := rfl
        omega
      have hor1 := or_int hi (lo / 72057594037927936) hh (by omega) ((hi : Int) * 256) ((lo : Int) / 72057594037927936) (by omega) (by omega)
      generalize hh2 : hi * 256 + lo / 72057594037927936 = hi2 at hor1
      have hS2 := hS.set 1 (.int .u64 (hi2 : Int)) (f2 := 6) (h2 := hi2) (l2 := lo) rfl
      obtain ⟨ad, rfl, hadb, c1⟩ := hS2.bs.at_ k hlt
      have hb := (l.getD k 0).toNat_lt
      have HB := Lib.hid (take_snoc8 hlt)
      have HS2 := Lib.hid hS2
      have HH2 := Lib.hid hh2
      clear hS hS2 hh2
      generalize l.getD k 0 = y at *
      have hor2 := or_int (lo % 72057594037927936) y.toNat (by omega) hb (IntKind.u64.wrap ((lo : Int) * 256)) (y.toNat : Int) (by rw [IntKind.wrap_u64]; omega) rfl
      generalize hl2 : lo % 72057594037927936 * 256 + y.toNat = lo2 at hor2
      have HN : Hid (hi2 * 18446744073709551616 + lo2 = val (l.take (k + 1)) ∧ lo2 < 18446744073709551616) := by
        rw [Hid, HB.out, val_snoc, ← HV.out]
        have := HH2.out
        omega
      have HS3 := Lib.hid (HS2.out.set 2 (.int .u64 (lo2 : Int)) (f2 := 6) (h2 := hi2) (l2 := lo2) rfl)
      clear hl2
      go_wp2_with fail
      go_region
      all_goals
        go_wp2_with fail
        go_roundg (l.length - (k + 1))
        case measure => omega
        case rel => exact ⟨k + 1, by omega, rfl, by go_num, hi2, lo2, HS3.out.drewN 1, HN.out.2, HN.out.1⟩
    · obtain rfl : k = l.length := by omega
      have HV2 : Hid (hi = val l / 18446744073709551616 ∧ lo = val l % 18446744073709551616) := by
        have := HV.out
        rw [List.take_of_length_le (Nat.le_refl _)] at this
        rw [Hid]
        omega
      have d0 : wr.cell? ⟨w.heap.size + 1, 0, none⟩ = some (.int .i64 6) := blk_cell hS.a 0
      have r0 : wr.cell? ⟨w.heap.size, 0, none⟩ = some (.int .i64 0) := blk_cell hS.r 0
      have r1 : wr.cell? ⟨w.heap.size, 1, none⟩ = some (.int .u64 0) := blk_cell hS.r 1
      have r2 : wr.cell? ⟨w.heap.size, 2, none⟩ = some (.int .u64 0) := blk_cell hS.r 2
      have z0 := blk_free hS.r 0
      have z1 := blk_free hS.r 1
      have z2 := blk_free hS.r 2
      have FF := hS.fin 6 hi lo
      have HF := Lib.hid FF.out.2
      have y0 : (wr.setCell ⟨w.heap.size, 0, none⟩ (.int .i64 6)).cell? ⟨w.heap.size, 0, none⟩ = some (.int .i64 6) := blk_cell (blk_set hS.r 0 (.int .i64 6)) 0
      have y1 : ((wr.setCell ⟨w.heap.size, 0, none⟩ (.int .i64 6)).setCell ⟨w.heap.size, 1, none⟩ (.int .u64 (hi : Int))).cell? ⟨w.heap.size, 1, none⟩ = some (.int .u64 (hi : Int)) := blk_cell (blk_set (blk_set hS.r 0 (.int .i64 6)) 1 (.int .u64 (hi : Int))) 1
      have y2 : (((wr.setCell ⟨w.heap.size, 0, none⟩ (.int .i64 6)).setCell ⟨w.heap.size, 1, none⟩ (.int .u64 (hi : Int))).setCell ⟨w.heap.size, 2, none⟩ (.int .u64 (lo : Int))).cell? ⟨w.heap.size, 2, none⟩ = some (.int .u64 (lo : Int)) := blk_cell (blk_set (blk_set (blk_set hS.r 0 (.int .i64 6)) 1 (.int .u64 (hi : Int))) 2 (.int .u64 (lo : Int))) 2
      have YY := Lib.hid (And.intro y0 (And.intro y1 y2))
      clear hS y0 y1 y2
      go_wp2_with fail
      obtain ⟨y0, y1, y2⟩ := YY.out
      exact bodyPost_ret (v := .agg (adC 6 hi lo)) (by simp [results, Tryz.results118, go_sem, y0, y1, y2, adC]) rfl ⟨by obtain ⟨rfl, rfl⟩ := HV2.out; rfl, HF.out⟩
end Go.Proofs.YtafdhccdjbfepaaGreat.Pfx
/- The walks of cmp.Or and of both Compares of prefixes. -/
namespace Go.Proofs.YtafdhccdjbfepaaGreat.Pfx
open Go.RowKit Go.Proofs.YtafdhccdjbfepaaGreat.K Go.Proofs.YtafdhccdjbfepaaGreat.Help
set_option linter.unusedVariables false

/-- the first that is not zero -/
def firstNZ : List Int → Int
  | [] => 0
  | x :: r => if x = 0 then firstNZ r else x
def ints (xs : List Int) : Array Value := (xs.map fun x => Value.int .i64 x).toArray
theorem ints_at (xs : List Int) (k : Nat) (h : k < xs.length) : (ints xs)[k]? = some (.int .i64 (xs.getD k 0)) := by simp [ints, h]
theorem drop_cons (xs : List Int) (k : Nat) (h : k < xs.length) : xs.drop k = xs.getD k 0 :: xs.drop (k + 1) := by
  rw [List.drop_eq_getElem_cons h]; simp [h]
theorem or_any (g : Nat) (xs : List Int) (t : TypeId) (w : World) (hb : w.heap[g]? = some (.cells (ints xs) t (0, 0))) (hn : xs.length ≤ 100) :
    Calls Tryz.prog 103 #[.slice (some ⟨g, 0, none⟩) xs.length xs.length] w fun e w' => e = .returned (.int .i64 (firstNZ xs)) ∧ w = w' := by
  have HB := Lib.hid hb
  clear hb
  obtain ⟨r, hr⟩ : ∃ r, firstNZ xs = r := ⟨_, rfl⟩
  rw [hr]
  have HR := Lib.hid hr
  clear hr
  go_enter Tryz.func103, Tryz.ntmps103
  go_wp2_with fail
  go_loopg [8] xs.length (fun gk i wr => ∃ k : Nat, k ≤ xs.length ∧ gk = xs.length - k ∧ i = .int .i64 (k : Int) ∧ wr = w ∧ Hid (firstNZ (xs.drop k) = r))
  case atStart => exact ⟨0, by omega, rfl, rfl, rfl, by simpa using HR⟩
  case round =>
    obtain ⟨k, hk, rfl, rfl, rfl, HT⟩ := hrel
    by_cases hlt : k < xs.length
    · have hlt2 : (k : Int) < xs.length := by omega
      have c1 := (blk_cell HB.out k).trans (ints_at xs k hlt)
      have hd := drop_cons xs k hlt
      have HT2 : Hid (firstNZ (xs.getD k 0 :: xs.drop (k + 1)) = r) := by rw [Hid, ← hd]; exact HT.out
      clear hd HT
      generalize xs.getD k 0 = x at *
      by_cases hx : x = 0
      · have h1 : (x != 0) = false := by simp [hx]
        have HN : Hid (firstNZ (xs.drop (k + 1)) = r) := by have := HT2.out; rw [firstNZ, if_pos hx] at this; exact this
        clear hx HT2
        go_wp2_with fail
        go_roundg (xs.length - (k + 1))
        case measure => omega
        case rel => exact ⟨k + 1, by omega, rfl, by go_num, rfl, HN⟩
      · have h1 : (x != 0) = true := by simp [hx]
        have HN : Hid (x = r) := by have := HT2.out; rw [firstNZ, if_neg hx] at this; exact this
        clear hx HT2
        go_wp2_with fail
        go_ret
        exact ⟨by rw [HN.out]; rfl, rfl⟩
    · obtain rfl : k = xs.length := by omega
      have HN : Hid (0 = r) := by have := HT.out; rw [List.drop_length] at this; exact this
      go_wp2_with fail
      go_ret
      exact ⟨by rw [← HN.out]; rfl, rfl⟩

/-- a prefix's cells -/
def pfC (fam : Int) (hi lo : Nat) (bits : Int) : Array Value := #[.int .i64 fam, .int .u64 (hi : Int), .int .u64 (lo : Int), .int .i64 bits]
def cmpP (fam : Int) (hi lo : Nat) (bits : Int) (fam' : Int) (hi' lo' : Nat) (bits' : Int) : Int := firstNZ [ord fam fam', ord bits bits', ord hi hi', ord lo lo']
/-- two boxes -/
structure TwoC (t1 t2 : TypeId) (w w' : World) (x y : Array Value) : Prop where
  a : w'.heap[w.heap.size]? = some (.cells x t1 (0, 0))
  b : w'.heap[w.heap.size + 1]? = some (.cells y t2 (0, 0))
  below : Below w.heap.size w w'
theorem TwoC.start (t1 t2 : TypeId) (w : World) (x y : Array Value) : TwoC t1 t2 w ((w.alloc (.cells x t1)).alloc (.cells y t2)) x y :=
  ⟨blk_alloc (blk_new _ _) _, by have := blk_new (w.alloc (.cells x t1)) (.cells y t2); simpa using this, below_alloc (below_alloc (Below.refl _ _) _) _⟩
theorem TwoC.drewN {t1 t2 : TypeId} {w w' : World} {x y : Array Value} (h : TwoC t1 t2 w w' x y) (n : Nat) : TwoC t1 t2 w (w'.drewN n) x y := ⟨h.a, h.b, below_drewN h.below n⟩

set_option maxRecDepth 100000 in
set_option maxHeartbeats 1000000 in
theorem compare_any (fam : Int) (hi lo : Nat) (bits : Int) (fam' : Int) (hi' lo' : Nat) (bits' : Int) (w : World) :
    Calls Tryz.prog 62 #[.agg #[.int .i64 fam, .int .u64 (hi : Int), .int .u64 (lo : Int), .int .i64 bits], .agg #[.int .i64 fam', .int .u64 (hi' : Int), .int .u64 (lo' : Int), .int .i64 bits']] w (Pure w (.int .i64 (cmpP fam hi lo bits fam' hi' lo' bits'))) := by
  have T := Lib.hid (fun g w t h => or_any g [ord fam fam', ord bits bits', ord hi hi', ord lo lo'] t w h (by simp))
  have H0 := Lib.hid (TwoC.start 110 110 w #[.int .i64 fam, .int .u64 (hi : Int), .int .u64 (lo : Int), .int .i64 bits] #[.int .i64 fam', .int .u64 (hi' : Int), .int .u64 (lo' : Int), .int .i64 bits'])
  generalize hr : cmpP fam hi lo bits fam' hi' lo' bits' = r
  have HR := Lib.hid hr
  clear hr
  go_enter Tryz.func62, Tryz.ntmps62
  go_wp2_with fail
  generalize (w.alloc (.cells #[.int .i64 fam, .int .u64 (hi : Int), .int .u64 (lo : Int), .int .i64 bits] 110)).alloc (.cells #[.int .i64 fam', .int .u64 (hi' : Int), .int .u64 (lo' : Int), .int .i64 bits'] 110) = W0 at H0 ⊢
  have a0 : W0.cell? ⟨w.heap.size, 0, none⟩ = some (.int .i64 fam) := blk_cell H0.out.a 0
  have a1 : W0.cell? ⟨w.heap.size, 1, none⟩ = some (.int .u64 (hi : Int)) := blk_cell H0.out.a 1
  have a2 : W0.cell? ⟨w.heap.size, 2, none⟩ = some (.int .u64 (lo : Int)) := blk_cell H0.out.a 2
  have a3 : W0.cell? ⟨w.heap.size, 3, none⟩ = some (.int .i64 bits) := blk_cell H0.out.a 3
  have b0 : W0.cell? ⟨w.heap.size + 1, 0, none⟩ = some (.int .i64 fam') := blk_cell H0.out.b 0
  have b1 : W0.cell? ⟨w.heap.size + 1, 1, none⟩ = some (.int .u64 (hi' : Int)) := blk_cell H0.out.b 1
  have b2 : W0.cell? ⟨w.heap.size + 1, 2, none⟩ = some (.int .u64 (lo' : Int)) := blk_cell H0.out.b 2
  have b3 : W0.cell? ⟨w.heap.size + 1, 3, none⟩ = some (.int .i64 bits') := blk_cell H0.out.b 3
  go_region_held3 (fun w' => w'.cell? ⟨w.heap.size, 0, none⟩ = some (.int .i64 fam) ∧ w'.cell? ⟨w.heap.size, 1, none⟩ = some (.int .u64 (hi : Int)) ∧ w'.cell? ⟨w.heap.size, 2, none⟩ = some (.int .u64 (lo : Int)) ∧ w'.cell? ⟨w.heap.size, 3, none⟩ = some (.int .i64 bits) ∧
      w'.cell? ⟨w.heap.size + 1, 0, none⟩ = some (.int .i64 fam') ∧ w'.cell? ⟨w.heap.size + 1, 1, none⟩ = some (.int .u64 (hi' : Int)) ∧ w'.cell? ⟨w.heap.size + 1, 2, none⟩ = some (.int .u64 (lo' : Int)) ∧ w'.cell? ⟨w.heap.size + 1, 3, none⟩ = some (.int .i64 bits')) (go_keep)
    (first
    | (go_at_call 104; refine (cmpInt_any _ _ _).mono ?_; rintro e w' ⟨rfl, rfl⟩)
    | (go_at_call 105; refine (cmpU64_any _ _ _).mono ?_; rintro e w' ⟨rfl, rfl⟩)
    | (go_at_call 103; refine (T.out _ _ _ (by first | exact blk_new _ _ | exact blk_drewN 1 (blk_new _ _))).mono ?_; rintro e w' ⟨rfl, rfl⟩))
  go_wp2_with fail
  go_ret
  exact ⟨by rw [← HR.out]; rfl, by first | exact below_drewN (below_alloc H0.out.below _) _ | exact below_alloc (below_drewN H0.out.below _) _ | exact below_drewN (below_alloc (below_drewN H0.out.below _) _) _⟩
end Go.Proofs.YtafdhccdjbfepaaGreat.Pfx
/- The walk of the document's Compare. -/
namespace Go.Proofs.YtafdhccdjbfepaaGreat.Pfx
open Go.RowKit Go.Proofs.YtafdhccdjbfepaaGreat.K Go.Proofs.YtafdhccdjbfepaaGreat.Help
set_option linter.unusedVariables false

set_option maxRecDepth 100000 in
set_option maxHeartbeats 1000000 in
theorem refCompare_any (fam : Int) (hi lo : Nat) (bits : Int) (fam' : Int) (hi' lo' : Nat) (bits' : Int) (w : World) :
    Calls Tryz.prog 108 #[.agg #[.int .i64 fam, .int .u64 (hi : Int), .int .u64 (lo : Int), .int .i64 bits], .agg #[.int .i64 fam', .int .u64 (hi' : Int), .int .u64 (lo' : Int), .int .i64 bits']] w (Pure w (.int .i64 (cmpP fam hi lo bits fam' hi' lo' bits'))) := by
  have H0 := Lib.hid (TwoC.start 110 110 w #[.int .i64 fam, .int .u64 (hi : Int), .int .u64 (lo : Int), .int .i64 bits] #[.int .i64 fam', .int .u64 (hi' : Int), .int .u64 (lo' : Int), .int .i64 bits'])
  generalize hr : cmpP fam hi lo bits fam' hi' lo' bits' = r
  have HR := Lib.hid hr
  clear hr
  unfold cmpP at HR
  go_enter Tryz.func108, Tryz.ntmps108
  go_wp2_with fail
  generalize (w.alloc (.cells #[.int .i64 fam, .int .u64 (hi : Int), .int .u64 (lo : Int), .int .i64 bits] 110)).alloc (.cells #[.int .i64 fam', .int .u64 (hi' : Int), .int .u64 (lo' : Int), .int .i64 bits'] 110) = W0 at H0 ⊢
  have a0 : W0.cell? ⟨w.heap.size, 0, none⟩ = some (.int .i64 fam) := blk_cell H0.out.a 0
  have a1 : W0.cell? ⟨w.heap.size, 1, none⟩ = some (.int .u64 (hi : Int)) := blk_cell H0.out.a 1
  have a2 : W0.cell? ⟨w.heap.size, 2, none⟩ = some (.int .u64 (lo : Int)) := blk_cell H0.out.a 2
  have a3 : W0.cell? ⟨w.heap.size, 3, none⟩ = some (.int .i64 bits) := blk_cell H0.out.a 3
  have b0 : W0.cell? ⟨w.heap.size + 1, 0, none⟩ = some (.int .i64 fam') := blk_cell H0.out.b 0
  have b1 : W0.cell? ⟨w.heap.size + 1, 1, none⟩ = some (.int .u64 (hi' : Int)) := blk_cell H0.out.b 1
  have b2 : W0.cell? ⟨w.heap.size + 1, 2, none⟩ = some (.int .u64 (lo' : Int)) := blk_cell H0.out.b 2
  have b3 : W0.cell? ⟨w.heap.size + 1, 3, none⟩ = some (.int .i64 bits') := blk_cell H0.out.b 3
  go_region_held3 (fun w' => w'.cell? ⟨w.heap.size, 0, none⟩ = some (.int .i64 fam) ∧ w'.cell? ⟨w.heap.size, 1, none⟩ = some (.int .u64 (hi : Int)) ∧ w'.cell? ⟨w.heap.size, 2, none⟩ = some (.int .u64 (lo : Int)) ∧ w'.cell? ⟨w.heap.size, 3, none⟩ = some (.int .i64 bits) ∧
      w'.cell? ⟨w.heap.size + 1, 0, none⟩ = some (.int .i64 fam') ∧ w'.cell? ⟨w.heap.size + 1, 1, none⟩ = some (.int .u64 (hi' : Int)) ∧ w'.cell? ⟨w.heap.size + 1, 2, none⟩ = some (.int .u64 (lo' : Int)) ∧ w'.cell? ⟨w.heap.size + 1, 3, none⟩ = some (.int .i64 bits')) (go_keep)
    (first
    | (go_at_call 131; refine (orderInt_any _ _ _).mono ?_; rintro e w' ⟨rfl, rfl⟩)
    | (go_at_call 132; refine (order_any _ _ _).mono ?_; rintro e w' ⟨rfl, rfl⟩))
  have HW : Hid (Below w.heap.size w (W0.alloc (.cells #[.int .i64 (ord fam fam'), .int .i64 (ord bits bits'), .int .i64 (ord hi hi'), .int .i64 (ord lo lo')] 3)).drew) := Lib.hid (below_drewN (below_alloc H0.out.below _) 1)
  have HX : Hid ((W0.alloc (.cells #[.int .i64 (ord fam fam'), .int .i64 (ord bits bits'), .int .i64 (ord hi hi'), .int .i64 (ord lo lo')] 3)).drew.heap[W0.heap.size]? = some (.cells (ints [ord fam fam', ord bits bits', ord hi hi', ord lo lo']) 3 (0, 0))) := blk_new W0 (.cells #[.int .i64 (ord fam fam'), .int .i64 (ord bits bits'), .int .i64 (ord hi hi'), .int .i64 (ord lo lo')] 3)
  clear a0 a1 a2 a3 b0 b1 b2 b3
  generalize (W0.alloc (.cells #[.int .i64 (ord fam fam'), .int .i64 (ord bits bits'), .int .i64 (ord hi hi'), .int .i64 (ord lo lo')] 3)).drew = Wx at HW HX ⊢
  generalize hxs : [ord fam fam', ord bits bits', ord hi hi', ord lo lo'] = xs at HX HR
  have hx4 : xs.length = 4 := by rw [← hxs]; rfl
  have X4 := Lib.hid hx4
  clear hxs hx4
  go_wp2_with fail
  go_loopg [6] 4 (fun gk i wr => ∃ k : Nat, k ≤ 4 ∧ gk = 4 - k ∧ i = .int .i64 (k : Int) ∧ wr = Wx ∧ Hid (firstNZ (xs.drop k) = r))
  case atStart => exact ⟨0, by omega, rfl, rfl, rfl, by simpa using HR⟩
  case round =>
    obtain ⟨k, hk, rfl, rfl, rfl, HT⟩ := hrel
    by_cases hlt : k < 4
    · have hlt2 : (k : Int) < 4 := by omega
      have hkx : k < xs.length := by rw [X4.out]; exact hlt
      have c1 := (blk_cell HX.out k).trans (ints_at xs k hkx)
      have hd := drop_cons xs k hkx
      have HT2 : Hid (firstNZ (xs.getD k 0 :: xs.drop (k + 1)) = r) := by rw [Hid, ← hd]; exact HT.out
      clear hd HT hkx
      generalize xs.getD k 0 = x at *
      by_cases hx : x = 0
      · have h1 : (x != 0) = false := by simp [hx]
        have HN : Hid (firstNZ (xs.drop (k + 1)) = r) := by have := HT2.out; rw [firstNZ, if_pos hx] at this; exact this
        clear hx HT2
        go_wp2_with fail
        go_roundg (4 - (k + 1))
        case measure => omega
        case rel => exact ⟨k + 1, by omega, rfl, by go_num, rfl, HN⟩
      · have h1 : (x != 0) = true := by simp [hx]
        have HN : Hid (x = r) := by have := HT2.out; rw [firstNZ, if_neg hx] at this; exact this
        clear hx HT2
        go_wp2_with fail
        go_ret
        exact ⟨by rw [HN.out]; rfl, HW.out⟩
    · obtain rfl : k = 4 := by omega
      have HN : Hid (0 = r) := by have := HT.out; rw [List.drop_of_length_le (by rw [X4.out]; exact Nat.le_refl _)] at this; exact this
      go_wp2_with fail
      go_ret
      exact ⟨by rw [← HN.out]; rfl, HW.out⟩
end Go.Proofs.YtafdhccdjbfepaaGreat.Pfx
/- The walk of the document's GetLane. -/
namespace Go.Proofs.YtafdhccdjbfepaaGreat.Help
open Go.RowKit Go.Proofs.YtafdhccdjbfepaaGreat.K
set_option linter.unusedVariables false

theorem bs_drop {w : World} {ad : Addr} {c : Nat} {l : List UInt8} (h : Bs w (some ad) c l) {n : Nat} (hn : n ≤ l.length) : Bs w (some (ad.add n)) (c - n) (l.drop n) := by
  refine ⟨by rw [List.length_drop]; have := h.le; omega, by rw [List.length_drop]; have := h.max; omega, fun i hi => ?_⟩
  rw [List.length_drop] at hi
  obtain ⟨ad', e, hlt, hc⟩ := h.at_ (n + i) (by omega)
  cases e
  refine ⟨_, rfl, by rw [addr_add_block]; exact hlt, ?_⟩
  have e2 : (ad.add n).add i = ad.add (n + i) := by unfold Addr.add; by_cases hi : n = 0 <;> by_cases hj : i = 0 <;> simp [hi, hj, Nat.add_assoc]
  rw [e2, hc]
  congr 3
  simp
set_option maxRecDepth 100000 in
set_option maxHeartbeats 1000000 in
theorem refGetLane_bad (A B : Option Addr) (c d : Nat) (k v : List UInt8) (w : World) (ha : Bs w A c k) (hb : Bs w B d v) (h : k.length ≠ 33 ∨ v.length ≠ 37) :
    Calls Tryz.prog 50 #[.agg #[.slice A k.length c, .slice B v.length d]] w (GotL w (zeroLane, 114)) := by
  have H0 := Lib.hid (LnZ.start 47 w #[.slice A k.length c, .slice B v.length d])
  have h1 := ha.max
  have h2 := hb.max
  have hcs : ((k.length : Int) != 33) = true ∨ (((k.length : Int) != 33) = false ∧ ((v.length : Int) != 37) = true) := by
    by_cases e : k.length = 33
    · exact .inr ⟨by rw [bne_eq_false_iff_eq]; omega, by rw [bne_iff_ne]; omega⟩
    · exact .inl (by rw [bne_iff_ne]; omega)
  clear ha hb h
  generalize k.length = n1 at *
  generalize v.length = n2 at *
  rcases hcs with g | ⟨g, g2⟩
  all_goals
    go_enter Tryz.func50, Tryz.ntmps50
    go_wp2_with fail
    exact bodyPost_ret (v := .tuple #[.agg #[.slice none 0 0, .int .i64 0, .int .i64 0, .int .i64 0, .int .u64 0, .int .u64 0, .int .i64 0, .int .i64 0], .int .i64 114]) (by simp [results, Tryz.results50, go_sem]) rfl ⟨none, 0, rfl, Bs.nil _ _ _, by exact H0.out.below, Nw.none _⟩
/-- a lane's box behind a row's and an answer's box -/
def RCut (w : World) (x y : Value) (key : List UInt8) (side cur next sc ce : Int) (s : Value) (wx : World) : Prop :=
  ∃ X A c, s = .pointer (some ⟨X, 0, none⟩) ∧ LnZ 47 w wx #[x, y] ∧ Bs wx A c key ∧ wx.heap[X]? = some (.cells (lnC A key.length c side cur next sc ce 0 0) 43 (0, 0)) ∧ w.heap.size + 1 < X ∧ Nw w A
theorem fill8_only (W : World) (X : Nat) (A : Option Addr) (n c : Nat) (side cur next sc ce se na : Int) : Only W (fill8 W X A n c side cur next sc ce se na) (fun k => k = X) := by
  unfold fill8
  exact ((((((((Only.refl W (fun k => k = X)).setCell (p := ⟨X, 0, none⟩) (.inl rfl) _).setCell (p := ⟨X, 1, none⟩) (.inl rfl) _).setCell (p := ⟨X, 2, none⟩) (.inl rfl) _).setCell (p := ⟨X, 3, none⟩) (.inl rfl) _).setCell (p := ⟨X, 4, none⟩) (.inl rfl) _).setCell (p := ⟨X, 5, none⟩) (.inl rfl) _).setCell (p := ⟨X, 6, none⟩) (.inl rfl) _).setCell (p := ⟨X, 7, none⟩) (.inl rfl) _
theorem RCut.new {w W : World} {x y : Value} {key : List UInt8} {side cur next sc ce : Int} {A : Option Addr} {c : Nat} (hW : LnZ 47 w W #[x, y]) (hb : Bs W A c key) (hn : Nw w A) :
    RCut w x y key side cur next sc ce (.pointer (some ⟨W.heap.size, 0, none⟩)) (W.alloc (.cells (lnC A key.length c side cur next sc ce 0 0) 43)) :=
  ⟨_, A, c, rfl, hW.step (below_alloc (Below.refl _ _) _), hb.below (below_alloc (Below.refl _ _) _), blk_new _ _, hW.lt, hn⟩
theorem RCut.mk' {w W : World} {x y : Value} {key : List UInt8} {side cur next sc ce : Int} {A : Option Addr} {c X : Nat} (hW : LnZ 47 w W #[x, y]) (hb : Bs W A c key) (hX : W.heap[X]? = some (.cells (lnC none 0 0 0 0 0 0 0 0 0) 43 (0, 0))) (hlt : w.heap.size + 1 < X) (hn : Nw w A) :
    RCut w x y key side cur next sc ce (.pointer (some ⟨X, 0, none⟩)) (fill8 W X A key.length c side cur next sc ce 0 0) := by
  have h0 : RB w W (fun k => k = X) A c key X 43 (lnC none 0 0 0 0 0 0 0 0 0) := ⟨hX, lnC_noU8 _ _ _ _ _ _ _ _ _ _, hb, Only.of_below hW.below _, by omega⟩
  have h1 := h0.fill8 A key.length c side cur next sc ce 0 0
  exact ⟨X, A, c, rfl, hW.only (fill8_only ..) (fun i hi => by rw [hi]; exact hlt), h1.bs, h1.r, hlt, hn⟩
theorem rdAt_cut {v : List UInt8} {a n : Nat} (h : a + n ≤ v.length) : rdAt v a n = val (cutN v a n) := by
  unfold rdAt cutN; rw [if_neg (by omega)]
theorem rdAt_pow (v : List UInt8) (a n : Nat) : rdAt v a n < 256 ^ n := by
  unfold rdAt
  split
  · exact Nat.pow_pos (by decide)
  · exact val_pow (by rw [List.length_take]; omega)
theorem stErr_of_same {d : LaneD} {v : List UInt8} (hd : LaneB d) (h0 : (putLane d).2.2 = 0) (h : (putLane d).2.1 = v) : (stGet (v.drop 25)).2.2 = 0 := by
  by_cases hok : laneOk d
  · rw [putLane_yes hok] at h
    dsimp only at h
    obtain ⟨_, _, _, _, _, _, hv⟩ := hok
    have hst : 0 ≤ d.sec ∧ 0 ≤ d.nano ∧ d.nano ≤ 999999999 := by unfold stV at hv; simp at hv; omega
    have hs := hd.sec
    have e : v.drop 25 = stPut d.sec.toNat d.nano.toNat := by
      rw [← h]
      unfold laneVal
      exact List.drop_left' (by simp [be_len])
    rw [e, stGet_put (by omega) (by omega)]
  · rw [putLane_no hok] at h0; cases h0
/-- the boxes and the lane as far as it is read -/
structure RCs (w W : World) (x y : Value) (X : Nat) (A : Option Addr) (c : Nat) (key : List UInt8) (side cur next sc ce se na : Int) : Prop where
  h : LnZ 47 w W #[x, y]
  bs : Bs W A c key
  bx : W.heap[X]? = some (.cells (lnC A key.length c side cur next sc ce se na) 43 (0, 0))
  hX : w.heap.size + 1 < X
section
variable {w W w2 : World} {x y : Value} {X : Nat} {A : Option Addr} {c : Nat} {key : List UInt8} {side cur next sc ce se na : Int}
theorem RCs.c0 (h : RCs w W x y X A c key side cur next sc ce se na) : W.cell? ⟨w.heap.size, 0, none⟩ = some x := h.h.cell 0
theorem RCs.c1 (h : RCs w W x y X A c key side cur next sc ce se na) : W.cell? ⟨w.heap.size, 1, none⟩ = some y := h.h.cell 1
theorem RCs.step (h : RCs w W x y X A c key side cur next sc ce se na) (hb : Below W.heap.size W w2) : RCs w w2 x y X A c key side cur next sc ce se na :=
  ⟨h.h.step hb, h.bs.below hb, (hb.block _ (blk_lt h.bx)).trans h.bx, h.hX⟩
theorem RCs.store (h : RCs w W x y X A c key side cur next sc ce se na) (j : Nat) (u : Value) {s1 c1 n1 sc1 ce1 se1 na1 : Int} (e : (lnC A key.length c side cur next sc ce se na).setIfInBounds j u = lnC A key.length c s1 c1 n1 sc1 ce1 se1 na1) :
    RCs w (W.setCell ⟨X, j, none⟩ u) x y X A c key s1 c1 n1 sc1 ce1 se1 na1 := by
  have o : Only W (W.setCell ⟨X, j, none⟩ u) (fun k => k = X) := (Only.refl W (fun k => k = X)).setCell (p := ⟨X, j, none⟩) (.inl rfl) u
  exact ⟨h.h.only o (fun i hi => by rw [hi]; exact h.hX), bs_only h.bs o (fun i hi _ => by rw [hi]; exact NoU8.of h.bx (lnC_noU8 _ _ _ _ _ _ _ _ _ _)), by rw [← e]; exact blk_set h.bx j u, h.hX⟩
theorem RCs.free (h : RCs w W x y X A c key side cur next sc ce se na) (j : Nat) : W.frozen? ⟨X, j, none⟩ = false := blk_free h.bx j
theorem RCs.rb (h : RCs w W x y X A c key side cur next sc ce se na) : RB w W (fun _ => False) A c key (w.heap.size + 1) 43 (lnC none 0 0 0 0 0 0 0 0 0) := h.h.rb h.bs
theorem RCs.old (h : RCs w W x y X A c key side cur next sc ce se na) {B : Option Addr} {b : Nat} {l : List UInt8} (hs : Bs w B b l) : Bs W B b l := hs.below h.h.below
end
set_option maxRecDepth 100000 in
set_option maxHeartbeats 4000000 in
theorem refGetLane_len (A B : Option Addr) (c d : Nat) (k v : List UInt8) (w : World) (ha : Bs w A c k) (hb : Bs w B d v) (hk : k.length = 33) (hv : v.length = 37) :
    Calls Tryz.prog 50 #[.agg #[.slice A k.length c, .slice B v.length d]] w (GotL w (laneGet k v)) := by
  obtain ⟨ad, rfl, hadb, hadc⟩ := ha.at_ 0 (by omega)
  obtain ⟨bd, rfl, hbdb, hbc⟩ := hb.at_ 0 (by omega)
  rw [show bd.add 0 = bd by simp [Addr.add]] at hbc
  rw [show ad.add 0 = ad by simp [Addr.add]] at hadc
  obtain ⟨ab, ao, rfl⟩ : ∃ b o, ad = ⟨b, o, none⟩ := ⟨_, _, cell_spot hadc⟩
  obtain ⟨bb, bo, rfl⟩ : ∃ b o, bd = ⟨b, o, none⟩ := ⟨_, _, cell_spot hbc⟩
  have hcne : ¬ c = 1 := by have := ha.le; omega
  have hdne : ¬ d = 25 := by have := hb.le; omega
  dsimp only at hadb hbdb
  clear hadc
  have hac := ha.le
  have hbc2 := hb.le
  have HR := Lib.hid (laneRd_len hk hv)
  have HA := Lib.hid ha
  have HB := Lib.hid hb
  have H0 := Lib.hid (LnZ.start 47 w #[.slice (some ⟨ab, ao, none⟩) k.length c, .slice (some ⟨bb, bo, none⟩) v.length d])
  have g1 : ((k.length : Int) != 33) = false := by rw [bne_eq_false_iff_eq]; omega
  have g2 : ((v.length : Int) != 37) = false := by rw [bne_eq_false_iff_eq]; omega
  have k1 : 33 ≤ k.length := by omega
  have k2 : k.length ≤ 33 := by omega
  have v1 : 37 ≤ v.length := by omega
  have v2 : v.length ≤ 37 := by omega
  have i1 : (1 : Int) ≤ (k.length : Int) := by omega
  have i2 : (k.length : Int) ≤ (c : Int) := by omega
  have i3 : (0 : Int) < (v.length : Int) := by omega
  have i4 : (25 : Int) ≤ (v.length : Int) := by omega
  have i5 : (v.length : Int) ≤ (d : Int) := by omega
  clear hk hv ha hb
  have BY := Lib.hid (fun W h => bytes (some ⟨ab, ao + 1, none⟩) (c - 1) (k.drop 1) W h)
  have bd0 := bs_drop HA.out (n := 1) (by omega)
  rw [show (⟨ab, ao, none⟩ : Addr).add 1 = ⟨ab, ao + 1, none⟩ by simp [Addr.add]] at bd0
  have BD := Lib.hid bd0
  clear bd0
  have hdl : (k.drop 1).length = k.length - 1 := List.length_drop ..
  rw [hdl] at BY
  have c0 : val (cutN v 0 1) = (v.getD 0 0).toNat := by
    obtain ⟨x, r, rfl⟩ : ∃ x r, v = x :: r := by
      cases v with
      | nil => simp at v1
      | cons x r => exact ⟨x, r, rfl⟩
    simp [cutN, val]
  have hb0 := (v.getD 0 0).toNat_lt
  generalize (v.getD 0 0).toNat = x0 at *
  have HC0 := Lib.hid c0
  generalize hkt : k.drop 1 = kt at *
  have HKT := Lib.hid hkt
  have HDL := Lib.hid hdl
  clear c0 hdl hkt
  have XB := Lib.hid (laneRd_b k v)
  have SE := Lib.hid (fun hd h0 h => stErr_of_same (d := laneRd k v) (v := v) hd h0 h)
  generalize hg : laneGet k v = got
  have HG := Lib.hid hg
  clear hg
  unfold laneGet at HG
  rw [HR.out] at HG SE XB
  have rb2 : rdAt v 1 4 < 4294967296 := Nat.lt_of_lt_of_le (rdAt_pow v 1 4) (by decide)
  have rb3 : rdAt v 5 4 < 4294967296 := Nat.lt_of_lt_of_le (rdAt_pow v 5 4) (by decide)
  rw [HC0.out, ← rdAt_cut (a := 1) (n := 4) (by omega), ← rdAt_cut (a := 5) (n := 4) (by omega), ← rdAt_cut (a := 9) (n := 8) (by omega), ← rdAt_cut (a := 17) (n := 8) (by omega)] at HG SE XB
  have R1 := Lib.hid (fun W h => read (some ⟨bb, bo, none⟩) d v 1 4 W h (by decide) (by decide))
  have R2 := Lib.hid (fun W h => read (some ⟨bb, bo, none⟩) d v 5 4 W h (by decide) (by decide))
  have R3 := Lib.hid (fun W h => read (some ⟨bb, bo, none⟩) d v 9 8 W h (by decide) (by decide))
  have R4 := Lib.hid (fun W h => read (some ⟨bb, bo, none⟩) d v 17 8 W h (by decide) (by decide))
  generalize rdAt v 1 4 = x2 at *
  generalize rdAt v 5 4 = x3 at *
  generalize rdAt v 9 8 = x4 at *
  generalize rdAt v 17 8 = x5 at *
  have bd0 := bs_drop HB.out (n := 25) (by omega)
  rw [show (⟨bb, bo, none⟩ : Addr).add 25 = ⟨bb, bo + 25, none⟩ by simp [Addr.add]] at bd0
  have BV := Lib.hid bd0
  clear bd0
  have SG := Lib.hid (fun W h => refGet (some ⟨bb, bo + 25, none⟩) (d - 25) (v.drop 25) W h)
  rw [show (v.drop 25).length = v.length - 25 from List.length_drop ..] at SG
  generalize hst : stGet (v.drop 25) = st at *
  obtain ⟨s1, s2, s3⟩ := st
  clear hst
  generalize hvt : v.drop 25 = vt at *
  clear hvt
  unfold stVal at SG
  dsimp only at HG SE XB SG
  have RD := Lib.hid (fun W a n h1 h2 h3 => read (some ⟨bb, bo, none⟩) d v a n W h1 h2 h3)
  generalize hnv : v.length = nv at *
  generalize hnk : k.length = nk at *
  have HNV := Lib.hid hnv
  have HNK := Lib.hid hnk
  clear hnv hnk
  have i6 : 0 < nv := by omega
  have hwx : IntKind.i64.wrap (x0 : Int) = x0 := IntWalk.i64_in _ (by omega)
  go_enter Tryz.func50, Tryz.ntmps50
  go_upto_region 3 with fail
  go_cut [4] (fun s wx => RCut w (.slice (some ⟨ab, ao, none⟩) nk c) (.slice (some ⟨bb, bo, none⟩) nv d) kt x0 0 0 0 0 s wx)
  case first =>
    have hlt0 := H0.out.lt
    unfold lnC at H0
    have bc := (H0.out.below.cell (p := ⟨bb, bo, none⟩) hbdb).trans hbc
    generalize (w.alloc (.cells #[.slice (some ⟨ab, ao, none⟩) nk c, .slice (some ⟨bb, bo, none⟩) nv d] 47)).alloc (.cells #[.slice none 0 0, .int .i64 0, .int .i64 0, .int .i64 0, .int .u64 0, .int .u64 0, .int .i64 0, .int .i64 0] 43) = W0 at H0 bc ⊢
    have s0 : W0.cell? ⟨w.heap.size, 0, none⟩ = some (.slice (some ⟨ab, ao, none⟩) nk c) := H0.out.cell 0
    have s1 : W0.cell? ⟨w.heap.size, 1, none⟩ = some (.slice (some ⟨bb, bo, none⟩) nv d) := H0.out.cell 1
    have hbw : ¬ bb = W0.heap.size := by have := H0.out.lt; omega
    go_region_held3 (fun w' => w'.cell? ⟨w.heap.size, 0, none⟩ = some (.slice (some ⟨ab, ao, none⟩) nk c) ∧ w'.cell? ⟨w.heap.size, 1, none⟩ = some (.slice (some ⟨bb, bo, none⟩) nv d) ∧ w'.cell? ⟨bb, bo, none⟩ = some (.int .u8 x0)) (first | go_keep | exact ⟨d0, d1, d2⟩)
      ((go_at_call 47; refine (BY.out _ (by first | exact H0.out.bs BD.out | exact (H0.out.bs BD.out).drewN _ | exact (H0.out.bs BD.out).below (below_alloc (Below.refl _ _) _) | exact ((H0.out.bs BD.out).below (below_alloc (Below.refl _ _) _)).drewN _)).mono ?_
        rintro e w1 ⟨v1', rfl, o1, hb1⟩
        obtain ⟨A1, c1, rfl, t1⟩ := o1.bs
        have h1 : LnZ 47 w w1 #[.slice (some ⟨ab, ao, none⟩) nk c, .slice (some ⟨bb, bo, none⟩) nv d] := (by first | exact H0.out.step hb1 | exact (H0.out.step (below_drewN (Below.refl _ _) _)).step hb1 | exact (H0.out.step (below_alloc (Below.refl _ _) _)).step hb1 | exact ((H0.out.step (below_alloc (Below.refl _ _) _)).step (below_drewN (Below.refl _ _) _)).step hb1)
        have d0 : w1.cell? ⟨w.heap.size, 0, none⟩ = some (.slice (some ⟨ab, ao, none⟩) nk c) := h1.cell 0
        have d1 : w1.cell? ⟨w.heap.size, 1, none⟩ = some (.slice (some ⟨bb, bo, none⟩) nv d) := h1.cell 1
        have d2 : w1.cell? ⟨bb, bo, none⟩ = some (.int .u8 x0) := (h1.below.cell (p := ⟨bb, bo, none⟩) hbdb).trans hbc
        have H1 := Lib.hid h1
        have S1 := Lib.hid t1
        have NW1 : Hid (Nw w A1) := Lib.hid (Own.nw o1 (by have := H0.out.lt; first | omega | (simp; omega)))
        have P1 := Lib.hid (show PersL _ w1 from fun g cs fr h => (hb1.block _ (blk_lt h)).trans h)
        have hbw1 : ¬ bb = w1.heap.size := (by have := h1.lt; omega)
        clear o1 hb1 t1 h1
        (try (have zA := P1.out _ _ _ (blk_new W0 _); obtain ⟨ya0, ya1, ya2, ya3, ya4, ya5, ya6, ya7, yb0, yb1, yb2, yb3, yb4, yb5, yb6, yb7⟩ := zero_cells zA; have ZA := Lib.hid zA; have nA1 : ¬ w.heap.size = W0.heap.size := (by have := H0.out.lt; omega); have nA2 : ¬ W0.heap.size = w.heap.size := (by have := H0.out.lt; omega); have nA3 : ¬ W0.heap.size = bb := (by omega); clear zA))))
    · go_wp2_with fail
      go_meet
      exact RCut.new H1.out S1.out NW1.out
    · go_wp2_with fail
      go_meet
      exact RCut.mk' H1.out S1.out ZA.out H0.out.lt NW1.out
  case rest =>
    obtain ⟨X, A2, c2, rfl, hz, hs2, hX, hlt, hnw⟩ := hcut
    have NWX := Lib.hid hnw
    clear hnw
    have X0 : RCs w wc (.slice (some ⟨ab, ao, none⟩) nk c) (.slice (some ⟨bb, bo, none⟩) nv d) X A2 c2 kt x0 0 0 0 0 0 0 := ⟨hz, hs2, hX, hlt⟩
    have C0 := Lib.hid X0
    have y1 := X0.c1
    clear hz hs2 hX X0 hwx
    go_wp2_with fail
    refine (R1.out _ (C0.out.old HB.out)).mono ?_
    rintro e u1 ⟨rfl, rfl⟩
    have z := (lane_cells C0.out.bx)
    obtain ⟨-, -, m2, m3, m4, m5, -, -⟩ := z
    have ff := C0.out.free 2
    have C1 := Lib.hid (C0.out.store 2 (.int .i64 (x2 : Int)) rfl)
    have t1 := C1.out.c1
    go_wp2_with fail
    refine (R2.out _ (C1.out.old HB.out)).mono ?_
    rintro e u2 ⟨rfl, rfl⟩
    have z := (lane_cells C1.out.bx)
    obtain ⟨-, -, m2, m3, m4, m5, -, -⟩ := z
    have ff := C1.out.free 3
    have C2 := Lib.hid (C1.out.store 3 (.int .i64 (x3 : Int)) rfl)
    have t1 := C2.out.c1
    go_wp2_with fail
    refine (R3.out _ (C2.out.old HB.out)).mono ?_
    rintro e u3 ⟨rfl, rfl⟩
    have z := (lane_cells C2.out.bx)
    obtain ⟨-, -, m2, m3, m4, m5, -, -⟩ := z
    have ff := C2.out.free 4
    have C3 := Lib.hid (C2.out.store 4 (.int .u64 (x4 : Int)) rfl)
    have t1 := C3.out.c1
    go_wp2_with fail
    refine (R4.out _ (C3.out.old HB.out)).mono ?_
    rintro e u4 ⟨rfl, rfl⟩
    have z := (lane_cells C3.out.bx)
    obtain ⟨-, -, m2, m3, m4, m5, -, -⟩ := z
    have ff := C3.out.free 5
    have C4 := Lib.hid (C3.out.store 5 (.int .u64 (x5 : Int)) rfl)
    have t1 := C4.out.c1
    go_wp2_with fail
    refine (SG.out _ (C4.out.old BV.out)).mono ?_
    rintro e u5 ⟨rfl, hb⟩
    have h5 := (C4.out.step hb).step (below_alloc (Below.refl _ _) (.cells #[.int .i64 s1, .int .i64 s2] 41))
    obtain ⟨-, -, -, -, -, -, m6, m7⟩ := lane_cells h5.bx
    have f6 := h5.free 6
    have f7 := h5.free 7
    have h7 := (h5.store 6 (.int .i64 s1) (se1 := s1) rfl).store 7 (.int .i64 s2) (na1 := s2) rfl
    have e0 : (((u5.alloc (.cells #[.int .i64 s1, .int .i64 s2] 41)).setCell ⟨X, 6, none⟩ (.int .i64 s1)).setCell ⟨X, 7, none⟩ (.int .i64 s2)).cell? ⟨X, 0, none⟩ = some (.slice A2 kt.length c2) := blk_cell h7.bx 0
    have e1 : (((u5.alloc (.cells #[.int .i64 s1, .int .i64 s2] 41)).setCell ⟨X, 6, none⟩ (.int .i64 s1)).setCell ⟨X, 7, none⟩ (.int .i64 s2)).cell? ⟨X, 1, none⟩ = some (.int .i64 x0) := blk_cell h7.bx 1
    have e2 : (((u5.alloc (.cells #[.int .i64 s1, .int .i64 s2] 41)).setCell ⟨X, 6, none⟩ (.int .i64 s1)).setCell ⟨X, 7, none⟩ (.int .i64 s2)).cell? ⟨X, 2, none⟩ = some (.int .i64 x2) := blk_cell h7.bx 2
    have e3 : (((u5.alloc (.cells #[.int .i64 s1, .int .i64 s2] 41)).setCell ⟨X, 6, none⟩ (.int .i64 s1)).setCell ⟨X, 7, none⟩ (.int .i64 s2)).cell? ⟨X, 3, none⟩ = some (.int .i64 x3) := blk_cell h7.bx 3
    have e4 : (((u5.alloc (.cells #[.int .i64 s1, .int .i64 s2] 41)).setCell ⟨X, 6, none⟩ (.int .i64 s1)).setCell ⟨X, 7, none⟩ (.int .i64 s2)).cell? ⟨X, 4, none⟩ = some (.int .u64 x4) := blk_cell h7.bx 4
    have e5 : (((u5.alloc (.cells #[.int .i64 s1, .int .i64 s2] 41)).setCell ⟨X, 6, none⟩ (.int .i64 s1)).setCell ⟨X, 7, none⟩ (.int .i64 s2)).cell? ⟨X, 5, none⟩ = some (.int .u64 x5) := blk_cell h7.bx 5
    have e6 : (((u5.alloc (.cells #[.int .i64 s1, .int .i64 s2] 41)).setCell ⟨X, 6, none⟩ (.int .i64 s1)).setCell ⟨X, 7, none⟩ (.int .i64 s2)).cell? ⟨X, 6, none⟩ = some (.int .i64 s1) := blk_cell h7.bx 6
    have e7 : (((u5.alloc (.cells #[.int .i64 s1, .int .i64 s2] 41)).setCell ⟨X, 6, none⟩ (.int .i64 s1)).setCell ⟨X, 7, none⟩ (.int .i64 s2)).cell? ⟨X, 7, none⟩ = some (.int .i64 s2) := blk_cell h7.bx 7
    have C7 := Lib.hid h7
    have P := Lib.hid (refPutLane_any A2 c2 ⟨kt, x0, x2, x3, x4, x5, s1, s2⟩ (((u5.alloc (.cells #[.int .i64 s1, .int .i64 s2] 41)).setCell ⟨X, 6, none⟩ (.int .i64 s1)).setCell ⟨X, 7, none⟩ (.int .i64 s2)) h7.bs XB.out)
    clear hb h5 h7 t1
    unfold laneV at P
    generalize putLane ⟨kt, (x0 : Int), (x2 : Int), (x3 : Int), x4, x5, s1, s2⟩ = pl at *
    obtain ⟨k', v', code⟩ := pl
    dsimp only at P HG SE
    go_wp2_with fail
    refine P.out.mono ?_
    rintro e w4 ⟨v1, v2, rfl, o1, o2, hb4⟩
    obtain ⟨B1, d1, rfl, q1⟩ := o1.bs
    obtain ⟨B2, d2, rfl, q2⟩ := o2.bs
    have hb5 := below_alloc hb4 (.cells #[.slice B1 k'.length d1, .slice B2 v'.length d2] 47)
    have hb6 := below_alloc (Below.refl w4.heap.size w4) (.cells #[.slice B1 k'.length d1, .slice B2 v'.length d2] 47)
    have h8 := C7.out.step hb5
    have y0 := h8.c0
    have y1 := h8.c1
    have S := sameRow B1 B2 (some ⟨ab, ao, none⟩) (some ⟨bb, bo, none⟩) d1 d2 c d k' v' k v _ (q1.below hb6) (q2.below hb6) (h8.old HA.out) (h8.old HB.out)
    rw [HNK.out, HNV.out] at S
    have C8 := Lib.hid h8
    have SS := Lib.hid S
    clear o1 o2 hb4 q1 q2 hb5 hb6 h8 S e0 e1 e2 e3 e4 e5 e6 e7
    generalize hsm : (decide (k' = k) && decide (v' = v)) = sm at *
    go_wp2_with fail
    refine SS.out.mono ?_
    rintro e w6 ⟨rfl, hb7⟩
    have h9 := C8.out.step hb7
    obtain ⟨p0, p1, p2, p3, p4, p5, p6, p7⟩ := lane_cells h9.bx
    obtain ⟨r0, r1, r2, r3, r4, r5, r6, r7, z0, z1, z2, z3, z4, z5, z6, z7⟩ := zero_cells h9.h.r
    have C9 := Lib.hid h9
    clear hb7 h9 SS P SG y0 y1
    by_cases hgood : code = 0 ∧ k' = k ∧ v' = v
    · have hG := HG.out
      rw [if_pos hgood] at hG
      subst hG
      have hs3 : s3 = 0 := SE.out XB.out hgood.1 hgood.2.2
      have hsm1 : sm = true := by rw [← hsm]; simp [hgood.2.1, hgood.2.2]
      obtain ⟨rfl, _, _⟩ := hgood
      subst hs3 hsm1
      have FF := Lib.hid (C9.out.rb.fill8 A2 kt.length c2 x0 x2 x3 x4 x5 s1 s2)
      have JJ := Lib.hid (lane_cells FF.out.r)
      unfold fill8 at JJ
      clear hsm HG SE
      go_wp2_with fail
      obtain ⟨j0, j1, j2, j3, j4, j5, j6, j7⟩ := JJ.out
      exact bodyPost_ret (v := .tuple #[.agg #[.slice A2 kt.length c2, .int .i64 (x0 : Int), .int .i64 (x2 : Int), .int .i64 (x3 : Int), .int .u64 (x4 : Int), .int .u64 (x5 : Int), .int .i64 s1, .int .i64 s2], .int .i64 0]) (by simp [results, Tryz.results50, go_sem, j0, j1, j2, j3, j4, j5, j6, j7]) rfl ⟨A2, c2, rfl, FF.out.bs, FF.out.below, NWX.out⟩
    · have hG := HG.out
      rw [if_neg hgood] at hG
      subst hG
      have FF := Lib.hid (C9.out.rb.fill8 none 0 0 0 0 0 0 0 0 0)
      have JJ := Lib.hid (lane_cells FF.out.r)
      unfold fill8 at JJ
      have hcs : (code != 0) = true ∨ ((code != 0) = false ∧ (s3 != 0) = true) ∨ ((code != 0) = false ∧ (s3 != 0) = false ∧ sm = false) := by
        by_cases h1 : code = 0
        · by_cases h2 : s3 = 0
          · refine .inr (.inr ⟨by simp [h1], by simp [h2], ?_⟩)
            rw [← hsm, Bool.and_eq_false_iff]
            by_cases h : k' = k
            · exact .inr (decide_eq_false (fun h' => hgood ⟨h1, h, h'⟩))
            · exact .inl (decide_eq_false h)
          · exact .inr (.inl ⟨by simp [h1], by simp [h2]⟩)
        · exact .inl (by simp [h1])
      clear hsm HG SE hgood
      rcases hcs with h1 | ⟨h1, h2⟩ | ⟨h1, h2, rfl⟩
      all_goals
        go_wp2_with fail
        obtain ⟨j0, j1, j2, j3, j4, j5, j6, j7⟩ := JJ.out
        exact bodyPost_ret (v := .tuple #[.agg #[.slice none 0 0, .int .i64 0, .int .i64 0, .int .i64 0, .int .u64 0, .int .u64 0, .int .i64 0, .int .i64 0], .int .i64 114]) (by simp [results, Tryz.results50, go_sem, j0, j1, j2, j3, j4, j5, j6, j7]) rfl ⟨none, 0, rfl, Bs.nil _ _ _, FF.out.below, Nw.none _⟩
theorem refGetLane_any (A B : Option Addr) (c d : Nat) (k v : List UInt8) (w : World) (ha : Bs w A c k) (hb : Bs w B d v) :
    Calls Tryz.prog 50 #[.agg #[.slice A k.length c, .slice B v.length d]] w (GotL w (laneGet k v)) := by
  by_cases h : k.length = 33 ∧ v.length = 37
  · exact refGetLane_len A B c d k v w ha hb h.1 h.2
  · have h2 : k.length ≠ 33 ∨ v.length ≠ 37 := by omega
    rw [laneGet_bad h2]
    exact refGetLane_bad A B c d k v w ha hb h2
end Go.Proofs.YtafdhccdjbfepaaGreat.Help
/- The walk of the document's Get of a prefix. -/
namespace Go.Proofs.YtafdhccdjbfepaaGreat.Pfx
open Go.RowKit Go.Proofs.YtafdhccdjbfepaaGreat.K Go.Proofs.YtafdhccdjbfepaaGreat.Help
set_option linter.unusedVariables false

/-- a prefix: family, the two halves, the bits -/
abbrev PfxD := Int × Nat × Nat × Nat
/-- what Get answers: the prefix, the bytes used, the code -/
def pfxGet (l : List UInt8) : PfxD × Nat × Int :=
  if l.length < 2 then ((0, 0, 0, 0), 0, 70)
  else if pw ((l.getD 0 0).toNat : Int) / 8 = 0 ∨ l.length < 2 + pw ((l.getD 0 0).toNat : Int) / 8 then ((0, 0, 0, 0), 0, 70)
  else if pvB ((l.getD 0 0).toNat : Int) (val ((l.drop 2).take (pw ((l.getD 0 0).toNat : Int) / 8)) / 18446744073709551616) (val ((l.drop 2).take (pw ((l.getD 0 0).toNat : Int) / 8)) % 18446744073709551616) ((l.getD 1 0).toNat : Int) = true
    then ((((l.getD 0 0).toNat : Int), val ((l.drop 2).take (pw ((l.getD 0 0).toNat : Int) / 8)) / 18446744073709551616, val ((l.drop 2).take (pw ((l.getD 0 0).toNat : Int) / 8)) % 18446744073709551616, (l.getD 1 0).toNat), 2 + pw ((l.getD 0 0).toNat : Int) / 8, 0)
  else ((0, 0, 0, 0), 0, 70)
def pfV (d : PfxD) : Value := .agg #[.int .i64 d.1, .int .u64 (d.2.1 : Int), .int .u64 (d.2.2.1 : Int), .int .i64 (d.2.2.2 : Int)]
def pgV (r : PfxD × Nat × Int) : Value := .tuple #[pfV r.1, .int .i64 (r.2.1 : Int), .int .i64 r.2.2]
/-- the answer's box of a prefix -/
structure PfR (w w' : World) : Prop where
  r : w'.heap[w.heap.size]? = some (.cells (pfC 0 0 0 0) 110 (0, 0))
  below : Below w.heap.size w w'
section
variable {w w' w2 : World}
theorem PfR.start (w : World) : PfR w (w.alloc (.cells (pfC 0 0 0 0) 110)) := ⟨blk_new _ _, below_alloc (Below.refl _ _) _⟩
theorem PfR.step (h : PfR w w') (hb : Below w'.heap.size w' w2) : PfR w w2 := ⟨(hb.block _ (blk_lt h.r)).trans h.r, below_step h.below hb⟩
theorem PfR.drewN (h : PfR w w') (n : Nat) : PfR w (w'.drewN n) := ⟨h.r, below_drewN h.below n⟩
theorem PfR.lt (h : PfR w w') : w.heap.size < w'.heap.size := blk_lt h.r
theorem PfR.zero (h : PfR w w') : w'.cell? ⟨w.heap.size, 0, none⟩ = some (.int .i64 0) ∧ w'.cell? ⟨w.heap.size, 1, none⟩ = some (.int .u64 0) ∧ w'.cell? ⟨w.heap.size, 2, none⟩ = some (.int .u64 0) ∧ w'.cell? ⟨w.heap.size, 3, none⟩ = some (.int .i64 0)
   ∧ w'.frozen? ⟨w.heap.size, 0, none⟩ = false ∧ w'.frozen? ⟨w.heap.size, 1, none⟩ = false ∧ w'.frozen? ⟨w.heap.size, 2, none⟩ = false ∧ w'.frozen? ⟨w.heap.size, 3, none⟩ = false :=
  ⟨blk_cell h.r 0, blk_cell h.r 1, blk_cell h.r 2, blk_cell h.r 3, blk_free h.r 0, blk_free h.r 1, blk_free h.r 2, blk_free h.r 3⟩
theorem PfR.fin (h : PfR w w') (fam : Int) (hi lo : Nat) (bits : Int) :
    Hid ((w'.setCell ⟨w.heap.size, 0, none⟩ (.int .i64 fam)).cell? ⟨w.heap.size, 0, none⟩ = some (.int .i64 fam)
     ∧ ((w'.setCell ⟨w.heap.size, 0, none⟩ (.int .i64 fam)).setCell ⟨w.heap.size, 1, none⟩ (.int .u64 (hi : Int))).cell? ⟨w.heap.size, 1, none⟩ = some (.int .u64 (hi : Int))
     ∧ (((w'.setCell ⟨w.heap.size, 0, none⟩ (.int .i64 fam)).setCell ⟨w.heap.size, 1, none⟩ (.int .u64 (hi : Int))).setCell ⟨w.heap.size, 2, none⟩ (.int .u64 (lo : Int))).cell? ⟨w.heap.size, 2, none⟩ = some (.int .u64 (lo : Int))
     ∧ ((((w'.setCell ⟨w.heap.size, 0, none⟩ (.int .i64 fam)).setCell ⟨w.heap.size, 1, none⟩ (.int .u64 (hi : Int))).setCell ⟨w.heap.size, 2, none⟩ (.int .u64 (lo : Int))).setCell ⟨w.heap.size, 3, none⟩ (.int .i64 bits)).cell? ⟨w.heap.size, 3, none⟩ = some (.int .i64 bits)
     ∧ Below w.heap.size w ((((w'.setCell ⟨w.heap.size, 0, none⟩ (.int .i64 fam)).setCell ⟨w.heap.size, 1, none⟩ (.int .u64 (hi : Int))).setCell ⟨w.heap.size, 2, none⟩ (.int .u64 (lo : Int))).setCell ⟨w.heap.size, 3, none⟩ (.int .i64 bits))) := by
  have b0 := blk_set h.r 0 (.int .i64 fam)
  have b1 := blk_set b0 1 (.int .u64 (hi : Int))
  have b2 := blk_set b1 2 (.int .u64 (lo : Int))
  have b3 := blk_set b2 3 (.int .i64 bits)
  exact ⟨blk_cell b0 0, blk_cell b1 1, blk_cell b2 2, blk_cell b3 3, (((h.below.setCell (p := ⟨w.heap.size, 0, none⟩) (Nat.le_refl _) _).setCell (p := ⟨w.heap.size, 1, none⟩) (Nat.le_refl _) _).setCell (p := ⟨w.heap.size, 2, none⟩) (Nat.le_refl _) _).setCell (p := ⟨w.heap.size, 3, none⟩) (Nat.le_refl _) _⟩
end
/-- behind the address: the prefix in its box -/
def GCut (w : World) (cs : Array Value) (s : Value) (wx : World) : Prop :=
  ∃ X, s = .pointer (some ⟨X, 0, none⟩) ∧ PfR w wx ∧ wx.heap[X]? = some (.cells cs 110 (0, 0)) ∧ w.heap.size < X
theorem GCut.new {w W : World} (hW : PfR w W) (cs : Array Value) : GCut w cs (.pointer (some ⟨W.heap.size, 0, none⟩)) (W.alloc (.cells cs 110)) :=
  ⟨_, rfl, hW.step (below_alloc (Below.refl _ _) _), blk_new _ _, hW.lt⟩
theorem GCut.mk' {w W : World} {X : Nat} (hW : PfR w W) (hX : W.heap[X]? = some (.cells (pfC 0 0 0 0) 110 (0, 0))) (hlt : w.heap.size < X) (fam : Int) (hi lo : Nat) (bits : Int) :
    GCut w (pfC fam hi lo bits) (.pointer (some ⟨X, 0, none⟩)) ((((W.setCell ⟨X, 0, none⟩ (.int .i64 fam)).setCell ⟨X, 1, none⟩ (.int .u64 (hi : Int))).setCell ⟨X, 2, none⟩ (.int .u64 (lo : Int))).setCell ⟨X, 3, none⟩ (.int .i64 bits)) := by
  have b0 := blk_set hX 0 (.int .i64 fam)
  have b1 := blk_set b0 1 (.int .u64 (hi : Int))
  have b2 := blk_set b1 2 (.int .u64 (lo : Int))
  have b3 := blk_set b2 3 (.int .i64 bits)
  have ho : Only W ((((W.setCell ⟨X, 0, none⟩ (.int .i64 fam)).setCell ⟨X, 1, none⟩ (.int .u64 (hi : Int))).setCell ⟨X, 2, none⟩ (.int .u64 (lo : Int))).setCell ⟨X, 3, none⟩ (.int .i64 bits)) (fun k => k = X) :=
    ((((Only.refl W (fun k => k = X)).setCell (p := ⟨X, 0, none⟩) (.inl rfl) _).setCell (p := ⟨X, 1, none⟩) (.inl rfl) _).setCell (p := ⟨X, 2, none⟩) (.inl rfl) _).setCell (p := ⟨X, 3, none⟩) (.inl rfl) _
  exact ⟨X, rfl, ⟨ho.blk hW.r (by omega), below_only hW.below ho (fun i hi => by rw [hi]; omega)⟩, by simpa [pfC] using b3, hlt⟩

set_option maxRecDepth 100000 in
set_option maxHeartbeats 1000000 in
theorem refGetShort (A : Option Addr) (c : Nat) (l : List UInt8) (w : World) (ha : Bs w A c l) (h : l.length < 2) :
    Calls Tryz.prog 87 #[.slice A l.length c] w (Pure w (pgV ((0, 0, 0, 0), 0, 70))) := by
  have H0 := Lib.hid (PfR.start w)
  have hl : (l.length : Int) < 2 := by omega
  generalize l.length = n at *
  go_enter Tryz.func87, Tryz.ntmps87
  clear ha
  go_wp2_with fail
  exact bodyPost_ret (v := pgV ((0, 0, 0, 0), 0, 70)) (by simp [results, Tryz.results87, go_sem, pgV, pfV]) rfl ⟨rfl, H0.out.below⟩
end Go.Proofs.YtafdhccdjbfepaaGreat.Pfx
/- The walk of the document's Get of a prefix: the bytes are there. -/
namespace Go.Proofs.YtafdhccdjbfepaaGreat.Pfx
open Go.RowKit Go.Proofs.YtafdhccdjbfepaaGreat.K Go.Proofs.YtafdhccdjbfepaaGreat.Help
set_option linter.unusedVariables false
theorem bs_take {w : World} {A : Option Addr} {c : Nat} {l : List UInt8} (h : Bs w A c l) (n : Nat) : Bs w A c (l.take n) := by
  have hl : (l.take n).length ≤ l.length := by rw [List.length_take]; omega
  refine ⟨by have := h.le; omega, by have := h.max; omega, fun i hi => ?_⟩
  obtain ⟨ad, e, hlt, hc⟩ := h.at_ i (by omega)
  rw [List.length_take] at hi
  refine ⟨ad, e, hlt, ?_⟩
  rw [hc]
  simp [show i < n by omega]
theorem PfR.fin0 {w w' : World} (h : PfR w w') :
    Hid ((w'.setCell ⟨w.heap.size, 0, none⟩ (.int .i64 0)).cell? ⟨w.heap.size, 0, none⟩ = some (.int .i64 0)
     ∧ ((w'.setCell ⟨w.heap.size, 0, none⟩ (.int .i64 0)).setCell ⟨w.heap.size, 1, none⟩ (.int .u64 0)).cell? ⟨w.heap.size, 1, none⟩ = some (.int .u64 0)
     ∧ (((w'.setCell ⟨w.heap.size, 0, none⟩ (.int .i64 0)).setCell ⟨w.heap.size, 1, none⟩ (.int .u64 0)).setCell ⟨w.heap.size, 2, none⟩ (.int .u64 0)).cell? ⟨w.heap.size, 2, none⟩ = some (.int .u64 0)
     ∧ ((((w'.setCell ⟨w.heap.size, 0, none⟩ (.int .i64 0)).setCell ⟨w.heap.size, 1, none⟩ (.int .u64 0)).setCell ⟨w.heap.size, 2, none⟩ (.int .u64 0)).setCell ⟨w.heap.size, 3, none⟩ (.int .i64 0)).cell? ⟨w.heap.size, 3, none⟩ = some (.int .i64 0)
     ∧ Below w.heap.size w ((((w'.setCell ⟨w.heap.size, 0, none⟩ (.int .i64 0)).setCell ⟨w.heap.size, 1, none⟩ (.int .u64 0)).setCell ⟨w.heap.size, 2, none⟩ (.int .u64 0)).setCell ⟨w.heap.size, 3, none⟩ (.int .i64 0))) := h.fin 0 0 0 0
theorem pf_cells {W : World} {X : Nat} {fam bits : Int} {hi lo : Int} (h : W.heap[X]? = some (.cells #[.int .i64 fam, .int .u64 hi, .int .u64 lo, .int .i64 bits] 110 (0, 0))) :
    W.cell? ⟨X, 0, none⟩ = some (.int .i64 fam) ∧ W.cell? ⟨X, 1, none⟩ = some (.int .u64 hi) ∧ W.cell? ⟨X, 2, none⟩ = some (.int .u64 lo) ∧ W.cell? ⟨X, 3, none⟩ = some (.int .i64 bits)
    ∧ W.frozen? ⟨X, 0, none⟩ = false ∧ W.frozen? ⟨X, 1, none⟩ = false ∧ W.frozen? ⟨X, 2, none⟩ = false ∧ W.frozen? ⟨X, 3, none⟩ = false :=
  ⟨blk_cell h 0, blk_cell h 1, blk_cell h 2, blk_cell h 3, blk_free h 0, blk_free h 1, blk_free h 2, blk_free h 3⟩
/-- a prefix's box stays -/
def PersP (W W' : World) : Prop := ∀ (g : Nat) (cs : Array Value) (fr : Nat × Nat), W.heap[g]? = some (Obj.cells cs 110 fr) → W'.heap[g]? = some (Obj.cells cs 110 fr)

set_option maxRecDepth 100000 in
set_option maxHeartbeats 1000000 in
theorem refGetFew_4 (A : Option Addr) (c : Nat) (l : List UInt8) (w : World) (ha : Bs w A c l) (h : 2 ≤ l.length) (hf : ((l.getD 0 0).toNat : Int) = 4) (hn : l.length < 2 + 4) :
    Calls Tryz.prog 87 #[.slice A l.length c] w (Pure w (pgV ((0, 0, 0, 0), 0, 70))) := by
  obtain ⟨ad, rfl, hadb, hadc⟩ := ha.at_ 0 (by omega)
  rw [show ad.add 0 = ad by simp [Addr.add]] at hadc
  obtain ⟨ab, ao, rfl⟩ : ∃ b o, ad = ⟨b, o, none⟩ := ⟨_, _, cell_spot hadc⟩
  have P := Lib.hid (fun W => refBits4 W)
  have H0 := Lib.hid (PfR.start w)
  have hl : ¬ ((l.length : Int) < 2) := by omega
  have hl0 : (0 : Int) < (l.length : Int) := by omega
  have hl3 : (l.length : Int) < 6 := by omega
  dsimp only at hadb
  have hne : ¬ ab = w.heap.size := by omega
  have x0 : (l.getD 0 0).toNat = 4 := by omega
  rw [x0] at hadc
  clear ha hf x0
  generalize l.length = n at *
  go_enter Tryz.func87, Tryz.ntmps87
  go_wp2_with (go_at_call 117; refine (P.out _).mono ?_; rintro e w' ⟨rfl, rfl⟩)
  exact bodyPost_ret (v := pgV ((0, 0, 0, 0), 0, 70)) (by simp [results, Tryz.results87, go_sem, pgV, pfV]) rfl ⟨rfl, H0.out.below⟩

set_option maxRecDepth 100000 in
set_option maxHeartbeats 1000000 in
theorem refGetFew_6 (A : Option Addr) (c : Nat) (l : List UInt8) (w : World) (ha : Bs w A c l) (h : 2 ≤ l.length) (hf : ((l.getD 0 0).toNat : Int) = 6) (hn : l.length < 2 + 16) :
    Calls Tryz.prog 87 #[.slice A l.length c] w (Pure w (pgV ((0, 0, 0, 0), 0, 70))) := by
  obtain ⟨ad, rfl, hadb, hadc⟩ := ha.at_ 0 (by omega)
  rw [show ad.add 0 = ad by simp [Addr.add]] at hadc
  obtain ⟨ab, ao, rfl⟩ : ∃ b o, ad = ⟨b, o, none⟩ := ⟨_, _, cell_spot hadc⟩
  have P := Lib.hid (fun W => refBits6 W)
  have H0 := Lib.hid (PfR.start w)
  have hl : ¬ ((l.length : Int) < 2) := by omega
  have hl0 : (0 : Int) < (l.length : Int) := by omega
  have hl3 : (l.length : Int) < 18 := by omega
  dsimp only at hadb
  have hne : ¬ ab = w.heap.size := by omega
  have x0 : (l.getD 0 0).toNat = 6 := by omega
  rw [x0] at hadc
  clear ha hf x0
  generalize l.length = n at *
  go_enter Tryz.func87, Tryz.ntmps87
  go_wp2_with (go_at_call 117; refine (P.out _).mono ?_; rintro e w' ⟨rfl, rfl⟩)
  exact bodyPost_ret (v := pgV ((0, 0, 0, 0), 0, 70)) (by simp [results, Tryz.results87, go_sem, pgV, pfV]) rfl ⟨rfl, H0.out.below⟩

set_option maxRecDepth 100000 in
set_option maxHeartbeats 1000000 in
theorem refGetOther (A : Option Addr) (c : Nat) (l : List UInt8) (w : World) (ha : Bs w A c l) (h : 2 ≤ l.length) (hf : pw ((l.getD 0 0).toNat : Int) = 0) :
    Calls Tryz.prog 87 #[.slice A l.length c] w (Pure w (pgV ((0, 0, 0, 0), 0, 70))) := by
  obtain ⟨ad, rfl, hadb, hadc⟩ := ha.at_ 0 (by omega)
  rw [show ad.add 0 = ad by simp [Addr.add]] at hadc
  obtain ⟨ab, ao, rfl⟩ : ∃ b o, ad = ⟨b, o, none⟩ := ⟨_, _, cell_spot hadc⟩
  have P0 := fun W => refBits_any ((l.getD 0 0).toNat : Int) W
  rw [hf] at P0
  have P := Lib.hid P0
  have H0 := Lib.hid (PfR.start w)
  have hl : ¬ ((l.length : Int) < 2) := by omega
  have hl0 : (0 : Int) < (l.length : Int) := by omega
  have hb := (l.getD 0 0).toNat_lt
  dsimp only at hadb
  have hne : ¬ ab = w.heap.size := by omega
  clear ha hf P0
  generalize (l.getD 0 0).toNat = x0 at *
  generalize l.length = n at *
  go_enter Tryz.func87, Tryz.ntmps87
  go_wp2_with (go_at_call 117; refine (P.out _).mono ?_; rintro e w' ⟨rfl, rfl⟩)
  exact bodyPost_ret (v := pgV ((0, 0, 0, 0), 0, 70)) (by simp [results, Tryz.results87, go_sem, pgV, pfV]) rfl ⟨rfl, H0.out.below⟩

set_option maxRecDepth 100000 in
set_option maxHeartbeats 1000000 in
theorem refGetHas_4 (A : Option Addr) (c : Nat) (l : List UInt8) (w : World) (r : PfxD × Nat × Int) (ha : Bs w A c l) (hf : ((l.getD 0 0).toNat : Int) = 4) (hn : 2 + 4 ≤ l.length)
    (hr : r = if pvB 4 (val ((l.drop 2).take 4) / 18446744073709551616) (val ((l.drop 2).take 4) % 18446744073709551616) ((l.getD 1 0).toNat : Int) = true then ((4, val ((l.drop 2).take 4) / 18446744073709551616, val ((l.drop 2).take 4) % 18446744073709551616, (l.getD 1 0).toNat), 2 + 4, 0) else ((0, 0, 0, 0), 0, 70)) :
    Calls Tryz.prog 87 #[.slice A l.length c] w (Pure w (pgV r)) := by
  obtain ⟨ad, rfl, hadb, hadc⟩ := ha.at_ 0 (by omega)
  rw [show ad.add 0 = ad by simp [Addr.add]] at hadc
  obtain ⟨ab, ao, rfl⟩ : ∃ b o, ad = ⟨b, o, none⟩ := ⟨_, _, cell_spot hadc⟩
  obtain ⟨ad, e1, -, hadd⟩ := ha.at_ 1 (by omega)
  obtain rfl : (⟨ab, ao, none⟩ : Addr) = ad := by simpa using e1
  rw [show (⟨ab, ao, none⟩ : Addr).add 1 = ⟨ab, ao + 1, none⟩ by simp [Addr.add]] at hadd
  have P := Lib.hid (fun W => refBits4 W)
  have H0 := Lib.hid (PfR.start w)
  have hl : ¬ ((l.length : Int) < 2) := by omega
  have hl0 : (0 : Int) < (l.length : Int) := by omega
  have hl1 : (1 : Int) < (l.length : Int) := by omega
  have hl3 : ¬ ((l.length : Int) < 6) := by omega
  have hc := ha.le
  have hl4 : (6 : Int) ≤ (c : Int) := by omega
  have hl5 : ¬ c = 2 := by omega
  have hw6 : IntKind.i64.wrap 6 = 6 := rfl
  have hl6 : 6 ≤ c := by omega
  dsimp only at hadb
  have hne : ¬ ab = w.heap.size := by omega
  have x0 : (l.getD 0 0).toNat = 4 := by omega
  rw [x0] at hadc
  have hb1 := (l.getD 1 0).toNat_lt
  have bd0 := bs_take (bs_drop ha (n := 2) (by omega)) 4
  rw [show (⟨ab, ao, none⟩ : Addr).add 2 = ⟨ab, ao + 2, none⟩ by simp [Addr.add]] at bd0
  have hll : ((l.drop 2).take 4).length = 4 := by rw [List.length_take, List.length_drop]; omega
  have AD := Lib.hid (fun W h => refAddr_4 (some ⟨ab, ao + 2, none⟩) (c - 2) ((l.drop 2).take 4) W h hll)
  rw [hll] at AD
  unfold adC at AD
  have BD := Lib.hid bd0
  have V := Lib.hid (fun W => refValid_any 4 (val ((l.drop 2).take 4) / 18446744073709551616) (val ((l.drop 2).take 4) % 18446744073709551616) ((l.getD 1 0).toNat : Int) W (by
    have h1 := val_lt ((l.drop 2).take 4)
    rw [hll] at h1
    have h3 : (256 : Nat) ^ 4 ≤ 340282366920938463463374607431768211456 := by decide
    omega) (by omega))
  generalize hpv : pvB 4 (val ((l.drop 2).take 4) / 18446744073709551616) (val ((l.drop 2).take 4) % 18446744073709551616) ((l.getD 1 0).toNat : Int) = pv at *
  clear ha hf x0 hll bd0 e1 hpv
  generalize hhi : val ((l.drop 2).take 4) / 18446744073709551616 = hi at *
  generalize hlo : val ((l.drop 2).take 4) % 18446744073709551616 = lo at *
  generalize (l.drop 2).take 4 = lt at *
  clear hhi hlo
  generalize (l.getD 1 0).toNat = x1 at *
  generalize l.length = n at *
  have HW : Hid (w.cell? ⟨ab, ao + 1, none⟩ = some (.int .u8 (x1 : Int)) ∧ ab < w.heap.size) := ⟨hadd, hadb⟩
  have HR := Lib.hid hr
  clear hr
  have hwx : IntKind.i64.wrap (x1 : Int) = x1 := IntWalk.i64_in _ (by omega)
  go_enter Tryz.func87, Tryz.ntmps87
  go_upto_region 6 with (go_at_call 117; refine (P.out _).mono ?_; rintro e w' ⟨rfl, rfl⟩)
  go_cut [6] (fun s wx => GCut w (pfC 4 hi lo (x1 : Int)) s wx)
  case first =>
    have hc1 : (w.alloc (.cells (pfC 0 0 0 0) 110)).cell? ⟨ab, ao + 1, none⟩ = some (.int .u8 (x1 : Int)) := (H0.out.below.cell (p := ⟨ab, ao + 1, none⟩) hadb).trans hadd
    unfold pfC at H0 hc1
    have BD0 := Lib.hid (BD.out.below H0.out.below)
    generalize hW0 : w.alloc (.cells #[.int .i64 0, .int .u64 (0 : Nat), .int .u64 (0 : Nat), .int .i64 0] 110) = W0 at H0 hc1 BD0 ⊢
    clear hW0
    have hlt0 : ¬ ab = W0.heap.size := by have := H0.out.lt; omega
    go_region_held3 (fun w' => w'.cell? ⟨ab, ao + 1, none⟩ = some (.int .u8 (x1 : Int))) (first | go_keep | exact d1)
      ((go_at_call 118; refine (AD.out _ (by first | exact BD0.out | exact BD0.out.drewN _ | exact BD0.out.below (below_alloc (Below.refl _ _) _) | exact (BD0.out.below (below_alloc (Below.refl _ _) _)).drewN _)).mono ?_
        rintro e w1 ⟨rfl, hb2⟩
        have h1 : PfR w w1 := (by first | exact H0.out.step hb2 | exact (H0.out.drewN _).step hb2 | exact (H0.out.step (below_alloc (Below.refl _ _) _)).step hb2 | exact ((H0.out.step (below_alloc (Below.refl _ _) _)).drewN _).step hb2)
        have d1 : w1.cell? ⟨ab, ao + 1, none⟩ = some (.int .u8 (x1 : Int)) := (h1.below.cell (p := ⟨ab, ao + 1, none⟩) HW.out.2).trans HW.out.1
        have H1 := Lib.hid h1
        have hbw1 : ¬ ab = w1.heap.size := (by have := h1.lt; omega)
        have P1 := Lib.hid (show PersP _ w1 from fun g cs fr h => (hb2.block _ (blk_lt h)).trans h)
        clear hb2 h1
        (try (have zA := P1.out _ _ _ (blk_new W0 _); obtain ⟨y0, y1, y2, y3, z0, z1, z2, z3⟩ := pf_cells zA; have ZA := Lib.hid zA; have nA1 : ¬ w.heap.size = W0.heap.size := (by have := H0.out.lt; omega); have nA2 : ¬ W0.heap.size = w.heap.size := (by have := H0.out.lt; omega); have nA3 : ¬ W0.heap.size = ab := (by omega); clear zA))))
    · go_wp2_with fail
      go_meet
      exact GCut.new H1.out _
    · go_wp2_with fail
      go_meet
      exact GCut.mk' H1.out ZA.out H0.out.lt _ _ _ _
  case rest =>
    obtain ⟨X, rfl, hz, hX, hlt⟩ := hcut
    have c0 : wc.cell? ⟨X, 0, none⟩ = some (.int .i64 4) := blk_cell hX 0
    have c1 : wc.cell? ⟨X, 1, none⟩ = some (.int .u64 (hi : Int)) := blk_cell hX 1
    have c2 : wc.cell? ⟨X, 2, none⟩ = some (.int .u64 (lo : Int)) := blk_cell hX 2
    have c3 : wc.cell? ⟨X, 3, none⟩ = some (.int .i64 (x1 : Int)) := blk_cell hX 3
    have HZ := Lib.hid hz
    have HX := Lib.hid hX
    clear hz hX
    cases pv
    · rw [if_neg (by simp)] at HR
      go_wp2_with fail
      refine (V.out _).mono ?_
      rintro e w2 ⟨rfl, hb2⟩
      have h2 := HZ.out.step hb2
      obtain ⟨y0, y1, y2, y3, z0, z1, z2, z3⟩ := h2.zero
      have F := h2.fin0
      have JJ := Lib.hid (And.intro F.out.1 (And.intro F.out.2.1 (And.intro F.out.2.2.1 F.out.2.2.2.1)))
      have HF := Lib.hid F.out.2.2.2.2
      clear F h2 hb2
      go_wp2_with fail
      rw [HR.out]
      obtain ⟨j0, j1, j2, j3⟩ := JJ.out
      exact bodyPost_ret (v := pgV ((0, 0, 0, 0), 0, 70)) (by simp [results, Tryz.results87, go_sem, pgV, pfV, j0, j1, j2, j3]) rfl ⟨rfl, HF.out⟩
    · rw [if_pos rfl] at HR
      go_wp2_with fail
      refine (V.out _).mono ?_
      rintro e w2 ⟨rfl, hb2⟩
      have h2 := HZ.out.step hb2
      have hx2 := (hb2.block _ (blk_lt HX.out)).trans HX.out
      have c0 : w2.cell? ⟨X, 0, none⟩ = some (.int .i64 4) := blk_cell hx2 0
      have c1 : w2.cell? ⟨X, 1, none⟩ = some (.int .u64 (hi : Int)) := blk_cell hx2 1
      have c2 : w2.cell? ⟨X, 2, none⟩ = some (.int .u64 (lo : Int)) := blk_cell hx2 2
      have c3 : w2.cell? ⟨X, 3, none⟩ = some (.int .i64 (x1 : Int)) := blk_cell hx2 3
      obtain ⟨y0, y1, y2, y3, z0, z1, z2, z3⟩ := h2.zero
      have F := h2.fin 4 hi lo (x1 : Int)
      have JJ := Lib.hid (And.intro F.out.1 (And.intro F.out.2.1 (And.intro F.out.2.2.1 F.out.2.2.2.1)))
      have HF := Lib.hid F.out.2.2.2.2
      clear F h2 hb2 hx2
      go_wp2_with fail
      rw [HR.out]
      obtain ⟨j0, j1, j2, j3⟩ := JJ.out
      exact bodyPost_ret (v := pgV ((4, hi, lo, x1), 2 + 4, 0)) (by simp [results, Tryz.results87, go_sem, pgV, pfV, j0, j1, j2, j3]) rfl ⟨rfl, HF.out⟩

set_option maxRecDepth 100000 in
set_option maxHeartbeats 1000000 in
theorem refGetHas_6 (A : Option Addr) (c : Nat) (l : List UInt8) (w : World) (r : PfxD × Nat × Int) (ha : Bs w A c l) (hf : ((l.getD 0 0).toNat : Int) = 6) (hn : 2 + 16 ≤ l.length)
    (hr : r = if pvB 6 (val ((l.drop 2).take 16) / 18446744073709551616) (val ((l.drop 2).take 16) % 18446744073709551616) ((l.getD 1 0).toNat : Int) = true then ((6, val ((l.drop 2).take 16) / 18446744073709551616, val ((l.drop 2).take 16) % 18446744073709551616, (l.getD 1 0).toNat), 2 + 16, 0) else ((0, 0, 0, 0), 0, 70)) :
    Calls Tryz.prog 87 #[.slice A l.length c] w (Pure w (pgV r)) := by
  obtain ⟨ad, rfl, hadb, hadc⟩ := ha.at_ 0 (by omega)
  rw [show ad.add 0 = ad by simp [Addr.add]] at hadc
  obtain ⟨ab, ao, rfl⟩ : ∃ b o, ad = ⟨b, o, none⟩ := ⟨_, _, cell_spot hadc⟩
  obtain ⟨ad, e1, -, hadd⟩ := ha.at_ 1 (by omega)
  obtain rfl : (⟨ab, ao, none⟩ : Addr) = ad := by simpa using e1
  rw [show (⟨ab, ao, none⟩ : Addr).add 1 = ⟨ab, ao + 1, none⟩ by simp [Addr.add]] at hadd
  have P := Lib.hid (fun W => refBits6 W)
  have H0 := Lib.hid (PfR.start w)
  have hl : ¬ ((l.length : Int) < 2) := by omega
  have hl0 : (0 : Int) < (l.length : Int) := by omega
  have hl1 : (1 : Int) < (l.length : Int) := by omega
  have hl3 : ¬ ((l.length : Int) < 18) := by omega
  have hc := ha.le
  have hl4 : (18 : Int) ≤ (c : Int) := by omega
  have hl5 : ¬ c = 2 := by omega
  have hw6 : IntKind.i64.wrap 18 = 18 := rfl
  have hl6 : 18 ≤ c := by omega
  dsimp only at hadb
  have hne : ¬ ab = w.heap.size := by omega
  have x0 : (l.getD 0 0).toNat = 6 := by omega
  rw [x0] at hadc
  have hb1 := (l.getD 1 0).toNat_lt
  have bd0 := bs_take (bs_drop ha (n := 2) (by omega)) 16
  rw [show (⟨ab, ao, none⟩ : Addr).add 2 = ⟨ab, ao + 2, none⟩ by simp [Addr.add]] at bd0
  have hll : ((l.drop 2).take 16).length = 16 := by rw [List.length_take, List.length_drop]; omega
  have AD := Lib.hid (fun W h => refAddr_16 (some ⟨ab, ao + 2, none⟩) (c - 2) ((l.drop 2).take 16) W h hll)
  rw [hll] at AD
  unfold adC at AD
  have BD := Lib.hid bd0
  have V := Lib.hid (fun W => refValid_any 6 (val ((l.drop 2).take 16) / 18446744073709551616) (val ((l.drop 2).take 16) % 18446744073709551616) ((l.getD 1 0).toNat : Int) W (by
    have h1 := val_lt ((l.drop 2).take 16)
    rw [hll] at h1
    have h3 : (256 : Nat) ^ 16 ≤ 340282366920938463463374607431768211456 := by decide
    omega) (by omega))
  generalize hpv : pvB 6 (val ((l.drop 2).take 16) / 18446744073709551616) (val ((l.drop 2).take 16) % 18446744073709551616) ((l.getD 1 0).toNat : Int) = pv at *
  clear ha hf x0 hll bd0 e1 hpv
  generalize hhi : val ((l.drop 2).take 16) / 18446744073709551616 = hi at *
  generalize hlo : val ((l.drop 2).take 16) % 18446744073709551616 = lo at *
  generalize (l.drop 2).take 16 = lt at *
  clear hhi hlo
  generalize (l.getD 1 0).toNat = x1 at *
  generalize l.length = n at *
  have HW : Hid (w.cell? ⟨ab, ao + 1, none⟩ = some (.int .u8 (x1 : Int)) ∧ ab < w.heap.size) := ⟨hadd, hadb⟩
  have HR := Lib.hid hr
  clear hr
  have hwx : IntKind.i64.wrap (x1 : Int) = x1 := IntWalk.i64_in _ (by omega)
  go_enter Tryz.func87, Tryz.ntmps87
  go_upto_region 6 with (go_at_call 117; refine (P.out _).mono ?_; rintro e w' ⟨rfl, rfl⟩)
  go_cut [6] (fun s wx => GCut w (pfC 6 hi lo (x1 : Int)) s wx)
  case first =>
    have hc1 : (w.alloc (.cells (pfC 0 0 0 0) 110)).cell? ⟨ab, ao + 1, none⟩ = some (.int .u8 (x1 : Int)) := (H0.out.below.cell (p := ⟨ab, ao + 1, none⟩) hadb).trans hadd
    unfold pfC at H0 hc1
    have BD0 := Lib.hid (BD.out.below H0.out.below)
    generalize hW0 : w.alloc (.cells #[.int .i64 0, .int .u64 (0 : Nat), .int .u64 (0 : Nat), .int .i64 0] 110) = W0 at H0 hc1 BD0 ⊢
    clear hW0
    have hlt0 : ¬ ab = W0.heap.size := by have := H0.out.lt; omega
    go_region_held3 (fun w' => w'.cell? ⟨ab, ao + 1, none⟩ = some (.int .u8 (x1 : Int))) (first | go_keep | exact d1)
      ((go_at_call 118; refine (AD.out _ (by first | exact BD0.out | exact BD0.out.drewN _ | exact BD0.out.below (below_alloc (Below.refl _ _) _) | exact (BD0.out.below (below_alloc (Below.refl _ _) _)).drewN _)).mono ?_
        rintro e w1 ⟨rfl, hb2⟩
        have h1 : PfR w w1 := (by first | exact H0.out.step hb2 | exact (H0.out.drewN _).step hb2 | exact (H0.out.step (below_alloc (Below.refl _ _) _)).step hb2 | exact ((H0.out.step (below_alloc (Below.refl _ _) _)).drewN _).step hb2)
        have d1 : w1.cell? ⟨ab, ao + 1, none⟩ = some (.int .u8 (x1 : Int)) := (h1.below.cell (p := ⟨ab, ao + 1, none⟩) HW.out.2).trans HW.out.1
        have H1 := Lib.hid h1
        have hbw1 : ¬ ab = w1.heap.size := (by have := h1.lt; omega)
        have P1 := Lib.hid (show PersP _ w1 from fun g cs fr h => (hb2.block _ (blk_lt h)).trans h)
        clear hb2 h1
        (try (have zA := P1.out _ _ _ (blk_new W0 _); obtain ⟨y0, y1, y2, y3, z0, z1, z2, z3⟩ := pf_cells zA; have ZA := Lib.hid zA; have nA1 : ¬ w.heap.size = W0.heap.size := (by have := H0.out.lt; omega); have nA2 : ¬ W0.heap.size = w.heap.size := (by have := H0.out.lt; omega); have nA3 : ¬ W0.heap.size = ab := (by omega); clear zA))))
    · go_wp2_with fail
      go_meet
      exact GCut.new H1.out _
    · go_wp2_with fail
      go_meet
      exact GCut.mk' H1.out ZA.out H0.out.lt _ _ _ _
  case rest =>
    obtain ⟨X, rfl, hz, hX, hlt⟩ := hcut
    have c0 : wc.cell? ⟨X, 0, none⟩ = some (.int .i64 6) := blk_cell hX 0
    have c1 : wc.cell? ⟨X, 1, none⟩ = some (.int .u64 (hi : Int)) := blk_cell hX 1
    have c2 : wc.cell? ⟨X, 2, none⟩ = some (.int .u64 (lo : Int)) := blk_cell hX 2
    have c3 : wc.cell? ⟨X, 3, none⟩ = some (.int .i64 (x1 : Int)) := blk_cell hX 3
    have HZ := Lib.hid hz
    have HX := Lib.hid hX
    clear hz hX
    cases pv
    · rw [if_neg (by simp)] at HR
      go_wp2_with fail
      refine (V.out _).mono ?_
      rintro e w2 ⟨rfl, hb2⟩
      have h2 := HZ.out.step hb2
      obtain ⟨y0, y1, y2, y3, z0, z1, z2, z3⟩ := h2.zero
      have F := h2.fin0
      have JJ := Lib.hid (And.intro F.out.1 (And.intro F.out.2.1 (And.intro F.out.2.2.1 F.out.2.2.2.1)))
      have HF := Lib.hid F.out.2.2.2.2
      clear F h2 hb2
      go_wp2_with fail
      rw [HR.out]
      obtain ⟨j0, j1, j2, j3⟩ := JJ.out
      exact bodyPost_ret (v := pgV ((0, 0, 0, 0), 0, 70)) (by simp [results, Tryz.results87, go_sem, pgV, pfV, j0, j1, j2, j3]) rfl ⟨rfl, HF.out⟩
    · rw [if_pos rfl] at HR
      go_wp2_with fail
      refine (V.out _).mono ?_
      rintro e w2 ⟨rfl, hb2⟩
      have h2 := HZ.out.step hb2
      have hx2 := (hb2.block _ (blk_lt HX.out)).trans HX.out
      have c0 : w2.cell? ⟨X, 0, none⟩ = some (.int .i64 6) := blk_cell hx2 0
      have c1 : w2.cell? ⟨X, 1, none⟩ = some (.int .u64 (hi : Int)) := blk_cell hx2 1
      have c2 : w2.cell? ⟨X, 2, none⟩ = some (.int .u64 (lo : Int)) := blk_cell hx2 2
      have c3 : w2.cell? ⟨X, 3, none⟩ = some (.int .i64 (x1 : Int)) := blk_cell hx2 3
      obtain ⟨y0, y1, y2, y3, z0, z1, z2, z3⟩ := h2.zero
      have F := h2.fin 6 hi lo (x1 : Int)
      have JJ := Lib.hid (And.intro F.out.1 (And.intro F.out.2.1 (And.intro F.out.2.2.1 F.out.2.2.2.1)))
      have HF := Lib.hid F.out.2.2.2.2
      clear F h2 hb2 hx2
      go_wp2_with fail
      rw [HR.out]
      obtain ⟨j0, j1, j2, j3⟩ := JJ.out
      exact bodyPost_ret (v := pgV ((6, hi, lo, x1), 2 + 16, 0)) (by simp [results, Tryz.results87, go_sem, pgV, pfV, j0, j1, j2, j3]) rfl ⟨rfl, HF.out⟩

theorem refGetP_any (A : Option Addr) (c : Nat) (l : List UInt8) (w : World) (ha : Bs w A c l) :
    Calls Tryz.prog 87 #[.slice A l.length c] w (Pure w (pgV (pfxGet l))) := by
  unfold pfxGet
  by_cases h2 : l.length < 2
  · rw [if_pos h2]; exact refGetShort A c l w ha h2
  · rw [if_neg h2]
    rcases pw_cases ((l.getD 0 0).toNat : Int) with ⟨hf, hp⟩ | ⟨hf, hp⟩ | ⟨-, -, hp⟩
    · rw [hp]
      by_cases hn : l.length < 2 + 4
      · rw [if_pos (.inr hn)]; exact refGetFew_4 A c l w ha (by omega) hf hn
      · rw [if_neg (by omega)]
        refine refGetHas_4 A c l w _ ha hf (by omega) ?_
        rw [hf]
    · rw [hp]
      by_cases hn : l.length < 2 + 16
      · rw [if_pos (.inr hn)]; exact refGetFew_6 A c l w ha (by omega) hf hn
      · rw [if_neg (by omega)]
        refine refGetHas_6 A c l w _ ha hf (by omega) ?_
        rw [hf]
    · rw [hp, if_pos (.inl rfl)]
      exact refGetOther A c l w ha (by omega) hp
end Go.Proofs.YtafdhccdjbfepaaGreat.Pfx
