/- The walk of the document's PutLane. -/
import Derived.Test.YtgbjhlkjceonpaaLanR
namespace Go.Proofs.Ytgbjhlkjceonpaa.Help
open Go.RowKit Go.Proofs.Ytgbjhlkjceonpaa.K
set_option linter.unusedVariables false

set_option maxRecDepth 100000 in
set_option maxHeartbeats 1000000 in
theorem refPutLane_any (A : Option Addr) (c : Nat) (d : LaneD) (w : World) (hs : Bs w A c d.key) (hd : LaneB d) :
    Calls Try.prog 10 #[laneV A c d] w (RowRet w (putLane d).1 (putLane d).2.1 (putLane d).2.2) := by
  have V := Lib.hid (fun w => refLaneOK A c d w)
  by_cases hok : laneOk d
  · have e1 : laneOkB d = true := decide_eq_true hok
    rw [e1] at V
    clear e1
    obtain ⟨key, side, cur, next, sc, ceil, sec, nano⟩ := d
    unfold laneV at *
    obtain ⟨b1, b2, b3⟩ := hd
    dsimp only at *
    obtain ⟨g1, g2, g3, g4, g5, g6, hv⟩ := hok
    dsimp only at *
    obtain ⟨cu, rfl⟩ : ∃ n : Nat, cur = n := ⟨cur.toNat, by omega⟩
    obtain ⟨ne, rfl⟩ : ∃ n : Nat, next = n := ⟨next.toNat, by omega⟩
    have hst : 0 ≤ sec ∧ 0 ≤ nano ∧ nano ≤ 999999999 := by unfold stV at hv; simp at hv; omega
    obtain ⟨se, rfl⟩ : ∃ n : Nat, sec = n := ⟨sec.toNat, by omega⟩
    obtain ⟨na, rfl⟩ : ∃ n : Nat, nano = n := ⟨nano.toNat, by omega⟩
    obtain ⟨sd, rfl, hsd⟩ : ∃ n : Nat, side = n ∧ (n = 0 ∨ n = 1) := ⟨side.toNat, by omega, by omega⟩
    rw [putLane_yes ⟨g1, by simpa using g2, g3, g4, g5, g6, hv⟩]
    have T := Lib.hid (fun w => refPut_yes se na w (by omega) (by omega))
    have H0 := Lib.hid (LnS.start 27 w #[.slice A key.length c, .int .i64 sd, .int .i64 cu, .int .i64 ne, .int .u64 (sc : Int), .int .u64 (ceil : Int), .int .i64 se, .int .i64 na])
    have HS := Lib.hid hs
    have HL := Lib.hid g1
    have hmx := hs.max
    clear hs hv hst g1 b3
    have BL : Hid (∀ w1 : World, Blk (w1.alloc (.cells #[.int .u8 (sd : Int)] 5)) w1.heap.size [UInt8.ofNat sd]) := by
      intro w1
      have h := blk_new w1 (.cells #[.int .u8 (sd : Int)] 5)
      rcases hsd with rfl | rfl <;> exact h
    have e1 : (sd : Int).toNat = sd := by omega
    have e2 : (cu : Int).toNat = cu := by omega
    have e3 : (ne : Int).toNat = ne := by omega
    have e4 : (se : Int).toNat = se := by omega
    have e5 : (na : Int).toNat = na := by omega
    dsimp only
    rw [e1, e2, e3, e4, e5]
    have hsd1 : sd ≤ 1 := by omega
    clear e1 e2 e3 e4 e5 hsd g2
    generalize hVV : laneVal sd cu ne sc ceil se na = VV
    generalize hKK : [76] ++ key = KK
    have HV := Lib.hid hVV
    have HK := Lib.hid hKK
    clear hVV hKK
    unfold laneVal at HV
    generalize UInt8.ofNat sd = y at *
    go_enter Try.func10, Try.ntmps10
    go_wp2_with fail
    refine (V.out _).mono ?_
    rintro e w1 ⟨rfl, hb1⟩
    have h1 := H0.out.step hb1
    have h2 := h1.alloc (.cells #[.int .u8 76] 5)
    have a0 : w1.cell? ⟨w.heap.size, 0, none⟩ = some (.slice A key.length c) := h1.cell 0
    have a1 : (w1.alloc (.cells #[.int .u8 76] 5)).cell? ⟨w.heap.size, 0, none⟩ = some (.slice A key.length c) := h2.cell 0
    have H2 := Lib.hid h2
    have OW : Hid (Own (w1.alloc (.cells #[.int .u8 76] 5)) w1.heap.size (.slice (some ⟨w1.heap.size, 0, none⟩) 1 1) [76]) :=
      (show Blk (w1.alloc (.cells #[.int .u8 76] 5)) w1.heap.size [76] from blk_new _ _).own (Nat.le_refl _) (by decide)
    have Z1 := Lib.hid h1.lt
    clear h1 h2 hb1
    go_wp2_with (at_builtin; refine push_many (B := w1.heap.size) rfl (.tmp 10) (.tmp 12) rfl (.slice (some ⟨w1.heap.size, 0, none⟩) 1 1) [76] key A c rfl rfl OW.out (H2.out.bs HS.out) (by rw [HL.out]; omega) (Below.refl _ _) (by simp) (by rw [HL.out]; decide) ?_; intro A2 c2 w2 o2 _ k2; rw [HK.out] at o2 ⊢; have Z2 := Lib.hid (show w1.heap.size < w2.heap.size from Nat.lt_of_lt_of_le (by simp) k2.size); have h3 := H2.out.only k2 (fun i hi => by have := Z1.out; simp [Value.ownBlock] at hi; omega); have a2 : w2.cell? ⟨w.heap.size, 1, none⟩ = some (.int .i64 sd) := h3.cell 1; have h4 := h3.alloc (.cells #[.int .u8 (sd : Int)] 5); have a3 : (w2.alloc (.cells #[.int .u8 (sd : Int)] 5)).cell? ⟨w.heap.size, 2, none⟩ = some (.int .i64 cu) := h4.cell 2; have H4 := Lib.hid h4; have KL := Lib.hid (fun i hi => Own.blk_lt o2 (i := i) hi); have KB := Lib.hid (fun i hi => Own.base_le o2 (i := i) hi); have K4 := Lib.hid (o2.below (below_alloc (Below.refl _ _) (.cells #[.int .u8 (sd : Int)] 5))); have V4 := Lib.hid ((BL.out w2).own (Nat.le_refl _) (by simp)); have Z3 := Lib.hid h3.lt; clear h3 h4 o2 k2 a0 a1)
    refine (number cu 4 _ (by omega) (by omega)).mono ?_
    rintro e u5 ⟨v5, rfl, o5, hb5⟩
    obtain ⟨B5, d5, rfl, s5⟩ := o5.bs
    have HH5 := Lib.hid (H4.out.step hb5)
    have VV5 := Lib.hid (V4.out.below hb5)
    have KK5 := Lib.hid (K4.out.below hb5)
    have S5 := Lib.hid s5
    have X5 := Lib.hid (Nat.le_trans (Nat.le_of_lt (blk_lt (BL.out w2))) hb5.size)
    have ML5 : (be 4 cu).length = 4 := by simp [be_len, stPut]
    have MM5 := Lib.hid ML5
    clear ML5 s5 hb5 o5
    go_wp2_with (at_builtin; refine push_many (B := w2.heap.size) rfl (.tmp 18) (.tmp 22) rfl (.slice (some ⟨w2.heap.size, 0, none⟩) 1 1) [y] (be 4 cu) B5 d5 rfl rfl VV5.out S5.out (by rw [MM5.out]; omega) (Below.refl _ _) X5.out (by rw [MM5.out]; have := List.length_singleton (a := y); omega) ?_; intro A5 c5 w5 o5 _ k5; have NL5 : ([y] ++ be 4 cu).length ≤ 5 := (by simp [be_len]); generalize [y] ++ be 4 cu = l5 at *; have h5 := HH5.out.only k5 (fun i hi => by have := Z3.out; have := VV5.out.base_le hi; omega); have a5 : w5.cell? ⟨w.heap.size, 3, none⟩ = some (.int .i64 ne) := h5.cell 3; have H5 := Lib.hid h5; have V5 := Lib.hid o5; have K5 := Lib.hid (KK5.out.only k5 (fun i hi e => by have := KL.out i hi; have := VV5.out.base_le e; omega)); have Y5 := Lib.hid (Nat.le_trans X5.out k5.size); clear h5 o5 k5)
    refine (number ne 4 _ (by omega) (by omega)).mono ?_
    rintro e u6 ⟨v6, rfl, o6, hb6⟩
    obtain ⟨B6, d6, rfl, s6⟩ := o6.bs
    have HH6 := Lib.hid (H5.out.step hb6)
    have VV6 := Lib.hid (V5.out.below hb6)
    have KK6 := Lib.hid (K5.out.below hb6)
    have S6 := Lib.hid s6
    have X6 := Lib.hid (Nat.le_trans Y5.out hb6.size)
    have ML6 : (be 4 ne).length = 4 := by simp [be_len, stPut]
    have MM6 := Lib.hid ML6
    clear ML6 s6 hb6 o6
    go_wp2_with (at_builtin; refine push_many (B := w2.heap.size) rfl (.tmp 24) (.tmp 28) rfl (.slice A5 l5.length c5) l5 (be 4 ne) B6 d6 rfl rfl VV6.out S6.out (by rw [MM6.out]; omega) (Below.refl _ _) X6.out (by rw [MM6.out]; omega) ?_; intro A6 c6 w6 o6 _ k6; have NL6 : (l5 ++ be 4 ne).length ≤ 9 := (by have := NL5; simp [be_len]; omega); generalize l5 ++ be 4 ne = l6 at *; have h6 := HH6.out.only k6 (fun i hi => by have := Z3.out; have := VV6.out.base_le hi; omega); have a6 : w6.cell? ⟨w.heap.size, 4, none⟩ = some (.int .u64 (sc : Int)) := h6.cell 4; have H6 := Lib.hid h6; have V6 := Lib.hid o6; have K6 := Lib.hid (KK6.out.only k6 (fun i hi e => by have := KL.out i hi; have := VV6.out.base_le e; omega)); have Y6 := Lib.hid (Nat.le_trans X6.out k6.size); clear h6 o6 k6)
    refine (number sc 8 _ (by omega) (by omega)).mono ?_
    rintro e u7 ⟨v7, rfl, o7, hb7⟩
    obtain ⟨B7, d7, rfl, s7⟩ := o7.bs
    have HH7 := Lib.hid (H6.out.step hb7)
    have VV7 := Lib.hid (V6.out.below hb7)
    have KK7 := Lib.hid (K6.out.below hb7)
    have S7 := Lib.hid s7
    have X7 := Lib.hid (Nat.le_trans Y6.out hb7.size)
    have ML7 : (be 8 sc).length = 8 := by simp [be_len, stPut]
    have MM7 := Lib.hid ML7
    clear ML7 s7 hb7 o7
    go_wp2_with (at_builtin; refine push_many (B := w2.heap.size) rfl (.tmp 30) (.tmp 33) rfl (.slice A6 l6.length c6) l6 (be 8 sc) B7 d7 rfl rfl VV7.out S7.out (by rw [MM7.out]; omega) (Below.refl _ _) X7.out (by rw [MM7.out]; omega) ?_; intro A7 c7 w7 o7 _ k7; have NL7 : (l6 ++ be 8 sc).length ≤ 17 := (by have := NL6; simp [be_len]; omega); generalize l6 ++ be 8 sc = l7 at *; have h7 := HH7.out.only k7 (fun i hi => by have := Z3.out; have := VV7.out.base_le hi; omega); have a7 : w7.cell? ⟨w.heap.size, 5, none⟩ = some (.int .u64 (ceil : Int)) := h7.cell 5; have H7 := Lib.hid h7; have V7 := Lib.hid o7; have K7 := Lib.hid (KK7.out.only k7 (fun i hi e => by have := KL.out i hi; have := VV7.out.base_le e; omega)); have Y7 := Lib.hid (Nat.le_trans X7.out k7.size); clear h7 o7 k7)
    refine (number ceil 8 _ (by omega) (by omega)).mono ?_
    rintro e u8 ⟨v8, rfl, o8, hb8⟩
    obtain ⟨B8, d8, rfl, s8⟩ := o8.bs
    have HH8 := Lib.hid (H7.out.step hb8)
    have VV8 := Lib.hid (V7.out.below hb8)
    have KK8 := Lib.hid (K7.out.below hb8)
    have S8 := Lib.hid s8
    have X8 := Lib.hid (Nat.le_trans Y7.out hb8.size)
    have ML8 : (be 8 ceil).length = 8 := by simp [be_len, stPut]
    have MM8 := Lib.hid ML8
    clear ML8 s8 hb8 o8
    go_wp2_with (at_builtin; refine push_many (B := w2.heap.size) rfl (.tmp 35) (.tmp 38) rfl (.slice A7 l7.length c7) l7 (be 8 ceil) B8 d8 rfl rfl VV8.out S8.out (by rw [MM8.out]; omega) (Below.refl _ _) X8.out (by rw [MM8.out]; omega) ?_; intro A8 c8 w8 o8 _ k8; have NL8 : (l7 ++ be 8 ceil).length ≤ 25 := (by have := NL7; simp [be_len]; omega); generalize l7 ++ be 8 ceil = l8 at *; have h8 := HH8.out.only k8 (fun i hi => by have := Z3.out; have := VV8.out.base_le hi; omega); have a8 : w8.cell? ⟨w.heap.size, 6, none⟩ = some (.int .i64 se) := h8.cell 6; have a8' : w8.cell? ⟨w.heap.size, 7, none⟩ = some (.int .i64 na) := h8.cell 7; have H8 := Lib.hid h8; have V8 := Lib.hid o8; have K8 := Lib.hid (KK8.out.only k8 (fun i hi e => by have := KL.out i hi; have := VV8.out.base_le e; omega)); have Y8 := Lib.hid (Nat.le_trans X8.out k8.size); clear h8 o8 k8)
    refine (T.out _).mono ?_
    rintro e u9 ⟨v9, rfl, o9, hb9⟩
    obtain ⟨B9, d9, rfl, s9⟩ := o9.bs
    have HH9 := Lib.hid (H8.out.step hb9)
    have VV9 := Lib.hid (V8.out.below hb9)
    have KK9 := Lib.hid (K8.out.below hb9)
    have S9 := Lib.hid s9
    have X9 := Lib.hid (Nat.le_trans Y8.out hb9.size)
    have ML9 : (stPut se na).length = 12 := by simp [be_len, stPut]
    have MM9 := Lib.hid ML9
    clear ML9 s9 hb9 o9
    go_wp2_with (at_builtin; refine push_many (B := w2.heap.size) rfl (.tmp 40) (.tmp 43) rfl (.slice A8 l8.length c8) l8 (stPut se na) B9 d9 rfl rfl VV9.out S9.out (by rw [MM9.out]; omega) (Below.refl _ _) X9.out (by rw [MM9.out]; omega) ?_; intro A9 c9 w9 o9 _ k9; rw [HV.out] at o9 ⊢; have h9 := HH9.out.only k9 (fun i hi => by have := Z3.out; have := VV9.out.base_le hi; omega); have H9 := Lib.hid h9; have V9 := Lib.hid o9; have K9 := Lib.hid (KK9.out.only k9 (fun i hi e => by have := KL.out i hi; have := VV9.out.base_le e; omega)); have Y9 := Lib.hid (Nat.le_trans X9.out k9.size); have r0 : w9.cell? ⟨w.heap.size + 1, 0, none⟩ = some (.slice none 0 0) := blk_cell h9.r 0; have r1 : w9.cell? ⟨w.heap.size + 1, 1, none⟩ = some (.slice none 0 0) := blk_cell h9.r 1; have z0 := blk_free h9.r 0; have z1 := blk_free h9.r 1; have ff := blk_set (blk_set h9.r 0 (.slice A2 KK.length c2)) 1 (.slice A9 VV.length c9); have j0 := Lib.hid ((blk_cell ff 0).trans (b := some (Value.slice A2 KK.length c2)) rfl); have j1 := Lib.hid ((blk_cell ff 1).trans (b := some (Value.slice A9 VV.length c9)) rfl); clear ff; clear h9 o9 k9)
    exact bodyPost_ret (v := .tuple #[.agg #[.slice A2 KK.length c2, .slice A9 VV.length c9], .int .i64 0]) (by simp [results, Try.results10, go_sem, j0.out, j1.out]) rfl (row_done1 H9.out (K9.out.mono (by have := Z1.out; omega)) (V9.out.mono (by have := Z3.out; omega)) 0)
  · have e1 : laneOkB d = false := decide_eq_false hok
    rw [e1] at V
    rw [putLane_no hok]
    obtain ⟨key, side, cur, next, sc, ceil, sec, nano⟩ := d
    unfold laneV at *
    dsimp only at *
    have H0 := Lib.hid (fun cs => LnS.start 27 w cs)
    clear e1 hs hd hok
    generalize key.length = n at *
    go_enter Try.func10, Try.ntmps10
    go_wp2_with fail
    refine (V.out _).mono ?_
    rintro e w1 ⟨rfl, hb1⟩
    have h1 := (H0.out _).step hb1
    have r0 : w1.cell? ⟨w.heap.size + 1, 0, none⟩ = some (.slice none 0 0) := blk_cell h1.r 0
    have r1 : w1.cell? ⟨w.heap.size + 1, 1, none⟩ = some (.slice none 0 0) := blk_cell h1.r 1
    have r2 := blk_free h1.r 0
    have r3 := blk_free h1.r 1
    have f := blk_set (blk_set h1.r 0 (.slice none 0 0)) 1 (.slice none 0 0)
    have f0 := Lib.hid ((blk_cell f 0).trans (b := some (Value.slice none 0 0)) rfl)
    have f1 := Lib.hid ((blk_cell f 1).trans (b := some (Value.slice none 0 0)) rfl)
    have HB1 := Lib.hid (row_done0 h1)
    clear hb1 h1 f
    go_wp2_with fail
    exact bodyPost_ret (v := .tuple #[.agg #[.slice none 0 0, .slice none 0 0], .int .i64 114]) (by simp [results, Try.results10, go_sem, f0.out, f1.out]) rfl ⟨_, _, rfl, Own.nil _ _, Own.nil _ _, HB1.out⟩
end Go.Proofs.Ytgbjhlkjceonpaa.Help
