/- The walk of the closed sentence 'first'. -/
import Derived.Test.YtgbjhlkjceonpaaLanJ
namespace Go.Proofs.Ytgbjhlkjceonpaa.Help
open Go.RowKit Go.Proofs.Ytgbjhlkjceonpaa.K
set_option linter.unusedVariables false

theorem putBoots_258 : putBoots 258 = ([66], [0, 0, 0, 0, 0, 0, 1, 2], 0) := by decide
def firstLane : LaneD := ⟨List.replicate 32 9, 1, 1, 0, 0, 1000, 5, 6⟩
theorem firstLane_b : LaneB firstLane := ⟨by decide, by decide, by decide⟩
theorem firstLane_ok : laneOk firstLane := by decide
theorem blk_step {W W2 : World} {g : Nat} {o : Obj} (h : W.heap[g]? = some o) (hb : Below W.heap.size W W2) : W2.heap[g]? = some o := (hb.block _ (blk_lt h)).trans h
set_option maxRecDepth 100000 in
set_option maxHeartbeats 1000000 in
theorem first_any (w : World) : Calls Try.prog 17 #[] w (Pure w (.bool true)) := by
  have P1 := Lib.hid (putBoots_any 258 w (by decide))
  rw [putBoots_258] at P1
  have hlen := putLane_len (d := firstLane) (by rw [putLane_yes firstLane_ok])
  have hcode : (putLane firstLane).2.2 = 0 := by rw [putLane_yes firstLane_ok]
  have hback := laneGet_put firstLane_b firstLane_ok
  have P2 := Lib.hid (fun A c W h => putLane_any A c firstLane W h firstLane_b)
  rw [hcode] at P2
  have KY := Lib.hid (fun W => key_any 9 W)
  generalize hl1 : (putLane firstLane).1 = k1 at *
  generalize hl2 : (putLane firstLane).2.1 = v1 at *
  have HL := Lib.hid hlen.2
  have G := Lib.hid (fun A B c d W h1 h2 => getLane_any A B c d k1 v1 W h1 h2)
  rw [hback] at G
  clear hlen hcode hback hl1 hl2
  unfold laneV at P2
  have e9 : firstLane.key = List.replicate 32 9 := rfl
  dsimp only [firstLane] at P2
  generalize hkk : List.replicate 32 (9 : UInt8) = kk at *
  have HKK := Lib.hid hkk
  clear hkk e9
  go_enter Try.func17, Try.ntmps17
  go_wp2_with fail
  refine P1.out.mono ?_
  rintro e w1 ⟨x1, x2, rfl, o1, o2, hb1⟩
  obtain ⟨A1, c1, rfl, s1⟩ := o1.bs
  obtain ⟨A2, c2, rfl, s2⟩ := o2.bs
  have HB1 := Lib.hid hb1
  have S1 := Lib.hid s1
  have S2 := Lib.hid s2
  clear o1 o2 hb1 s1 s2
  go_wp2_with fail
  have hba : Below w1.heap.size w1 ((((w1.alloc (.cells #[.slice A1 1 c1, .slice A2 8 c2] 29)).alloc (.cells #[.int .u8 66] 5)).alloc (.cells #[.int .u8 0, .int .u8 0, .int .u8 0, .int .u8 0, .int .u8 0, .int .u8 0, .int .u8 1, .int .u8 2] 5)).alloc (.cells #[.slice (some ⟨w1.heap.size + 1, 0, none⟩) 1 1, .slice (some ⟨w1.heap.size + 1 + 1, 0, none⟩) 8 8] 29)) := below_alloc (below_alloc (below_alloc (below_alloc (Below.refl _ _) _) _) _) _
  have L1 : Blk ((((w1.alloc (.cells #[.slice A1 1 c1, .slice A2 8 c2] 29)).alloc (.cells #[.int .u8 66] 5)).alloc (.cells #[.int .u8 0, .int .u8 0, .int .u8 0, .int .u8 0, .int .u8 0, .int .u8 0, .int .u8 1, .int .u8 2] 5)).alloc (.cells #[.slice (some ⟨w1.heap.size + 1, 0, none⟩) 1 1, .slice (some ⟨w1.heap.size + 1 + 1, 0, none⟩) 8 8] 29)) (w1.heap.size + 1) [66] := by
    have h := blk_new (w1.alloc (.cells #[.slice A1 1 c1, .slice A2 8 c2] 29)) (.cells #[.int .u8 66] 5)
    rw [show (w1.alloc (.cells #[.slice A1 1 c1, .slice A2 8 c2] 29)).heap.size = w1.heap.size + 1 by simp] at h
    exact blk_alloc (blk_alloc h _) _
  have L2 : Blk ((((w1.alloc (.cells #[.slice A1 1 c1, .slice A2 8 c2] 29)).alloc (.cells #[.int .u8 66] 5)).alloc (.cells #[.int .u8 0, .int .u8 0, .int .u8 0, .int .u8 0, .int .u8 0, .int .u8 0, .int .u8 1, .int .u8 2] 5)).alloc (.cells #[.slice (some ⟨w1.heap.size + 1, 0, none⟩) 1 1, .slice (some ⟨w1.heap.size + 1 + 1, 0, none⟩) 8 8] 29)) (w1.heap.size + 1 + 1) [0, 0, 0, 0, 0, 0, 1, 2] := by
    have h := blk_new ((w1.alloc (.cells #[.slice A1 1 c1, .slice A2 8 c2] 29)).alloc (.cells #[.int .u8 66] 5)) (.cells #[.int .u8 0, .int .u8 0, .int .u8 0, .int .u8 0, .int .u8 0, .int .u8 0, .int .u8 1, .int .u8 2] 5)
    rw [show ((w1.alloc (.cells #[.slice A1 1 c1, .slice A2 8 c2] 29)).alloc (.cells #[.int .u8 66] 5)).heap.size = w1.heap.size + 1 + 1 by simp] at h
    exact blk_alloc h _
  refine (sameRow A1 A2 (some ⟨w1.heap.size + 1, 0, none⟩) (some ⟨w1.heap.size + 1 + 1, 0, none⟩) c1 c2 1 8 [66] [0, 0, 0, 0, 0, 0, 1, 2] [66] [0, 0, 0, 0, 0, 0, 1, 2] _ (S1.out.below hba) (S2.out.below hba) (L1.bs (by decide)) (L2.bs (by decide))).mono ?_
  rintro e w2 ⟨rfl, hb2⟩
  have HB2 := Lib.hid (below_step (below_step HB1.out hba) hb2)
  clear hba L1 L2 hb2
  rw [show (decide (([66] : List UInt8) = [66]) && decide (([0, 0, 0, 0, 0, 0, 1, 2] : List UInt8) = [0, 0, 0, 0, 0, 0, 1, 2])) = true by decide]
  clear S1 S2 HB1 P1
  go_wp2_with fail
  refine (KY.out _).mono ?_
  rintro e w3 ⟨x3, rfl, o3, hb3⟩
  obtain ⟨A3, c3, rfl, s3⟩ := o3.bs
  have HB3 := Lib.hid (below_step HB2.out hb3)
  have S3 := Lib.hid (s3.below (below_alloc (Below.refl _ _) (.cells #[.slice A3 kk.length c3, .int .i64 1, .int .i64 1, .int .i64 0, .int .u64 0, .int .u64 1000, .int .i64 5, .int .i64 6] 27)))
  have L3 := Lib.hid (blk_new w3 (.cells #[.slice A3 kk.length c3, .int .i64 1, .int .i64 1, .int .i64 0, .int .u64 0, .int .u64 1000, .int .i64 5, .int .i64 6] 27))
  clear o3 hb3 s3
  go_wp2_with fail
  refine (P2.out A3 c3 _ S3.out).mono ?_
  rintro e w4 ⟨x4, x5, rfl, o4, o5, hb4⟩
  obtain ⟨A4, c4, rfl, s4⟩ := o4.bs
  obtain ⟨A5, c5, rfl, s5⟩ := o5.bs
  have hq := below_alloc (Below.refl w4.heap.size w4) (.cells #[.slice A4 k1.length c4, .slice A5 v1.length c5] 29)
  have S3b := Lib.hid ((S3.out.below hb4).below hq)
  have L4 := Lib.hid (blk_step (blk_step L3.out hb4) hq)
  have HB4 := Lib.hid (below_step (below_step (below_alloc HB3.out (.cells #[.slice A3 kk.length c3, .int .i64 1, .int .i64 1, .int .i64 0, .int .u64 0, .int .u64 1000, .int .i64 5, .int .i64 6] 27)) hb4) hq)
  have S4 := Lib.hid (s4.below hq)
  have S5 := Lib.hid (s5.below hq)
  have Q4 := Lib.hid (blk_new w4 (.cells #[.slice A4 k1.length c4, .slice A5 v1.length c5] 29))
  clear o4 o5 s4 s5 hq hb4
  go_wp2_with fail
  refine (G.out A4 A5 c4 c5 _ S4.out S5.out).mono ?_
  rintro e w5 ⟨A6, c6, rfl, s6, hb5⟩
  unfold laneV
  have e6 : Bs w5 A6 c6 kk := by rw [← HKK.out]; exact s6
  have hk6 : firstLane.key.length = kk.length := by rw [← HKK.out]; rfl
  rw [hk6]
  dsimp only [firstLane]
  have hm := below_alloc (Below.refl w5.heap.size w5) (.cells #[.slice A6 kk.length c6, .int .i64 1, .int .i64 1, .int .i64 0, .int .u64 0, .int .u64 1000, .int .i64 5, .int .i64 6] 27)
  have L5 := blk_step (blk_step L4.out hb5) hm
  obtain ⟨p0, p1, p2, p3, p4, p5, p6, p7⟩ := lane_cells (A := A3) (n := kk.length) (c := c3) (side := 1) (cur := 1) (next := 0) (sc := 0) (ce := 1000) (se := 5) (na := 6) L5
  have HB5 := Lib.hid (below_step (below_step HB4.out hb5) hm)
  have SL := Lib.hid (sameLane_refl A3 A6 c3 c6 ⟨kk, 1, 1, 0, 0, 1000, 5, 6⟩ _ ((S3b.out.below hb5).below hm) (e6.below hm))
  have Q5 := Lib.hid (blk_step (blk_step Q4.out hb5) hm)
  clear hb5 s6 e6 hk6 hm L5
  unfold laneV at SL
  dsimp only at SL
  go_wp2_with fail
  refine SL.out.mono ?_
  rintro e w6 ⟨rfl, hb6⟩
  have q6 := blk_step Q5.out hb6
  have t1 : w6.cell? ⟨w4.heap.size, 1, none⟩ = some (.slice A5 v1.length c5) := blk_cell q6 1
  have HB6 := Lib.hid (below_step HB5.out hb6)
  have h37 : ((v1.length : Int) == 37) = true := by rw [beq_iff_eq]; have := HL.out; omega
  clear q6 hb6
  go_wp2_with (go_at_call 16; refine (num_any _ _).mono ?_; rintro e w' ⟨rfl, rfl⟩)
  trace_state
  go_ret
  exact ⟨rfl, HB6.out⟩
end Go.Proofs.Ytgbjhlkjceonpaa.Help
