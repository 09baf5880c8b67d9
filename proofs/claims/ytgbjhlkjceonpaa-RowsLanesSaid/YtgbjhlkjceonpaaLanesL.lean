/- The walk of RowsLanes. -/
import Derived.Test.YtgbjhlkjceonpaaArg
namespace Go.Proofs.Ytgbjhlkjceonpaa.rowsLanes
open Go.RowKit Go.Proofs.Ytgbjhlkjceonpaa.K Go.Proofs.Ytgbjhlkjceonpaa.Help
set_option linter.unusedVariables false

/-- the two boxes of the arguments -/
structure TwoB (t1 t2 : TypeId) (w w' : World) (x y : Array Value) : Prop where
  a : w'.heap[w.heap.size]? = some (.cells x t1 (0, 0))
  b : w'.heap[w.heap.size + 1]? = some (.cells y t2 (0, 0))
  below : Below w.heap.size w w'
theorem TwoB.start (t1 t2 : TypeId) (w : World) (x y : Array Value) : TwoB t1 t2 w ((w.alloc (.cells x t1)).alloc (.cells y t2)) x y :=
  ⟨blk_alloc (blk_new _ _) _, by have := blk_new (w.alloc (.cells x t1)) (.cells y t2); simpa using this, below_alloc (below_alloc (Below.refl _ _) _) _⟩
theorem TwoB.step {t1 t2 : TypeId} {w w' w2 : World} {x y : Array Value} (h : TwoB t1 t2 w w' x y) (hb : Below w'.heap.size w' w2) : TwoB t1 t2 w w2 x y := ⟨blk_step h.a hb, blk_step h.b hb, below_step h.below hb⟩
theorem TwoB.bs {t1 t2 : TypeId} {w w' : World} {x y : Array Value} (h : TwoB t1 t2 w w' x y) {A : Option Addr} {c : Nat} {l : List UInt8} (hs : Bs w A c l) : Bs w' A c l := hs.below h.below

set_option maxRecDepth 100000 in
set_option maxHeartbeats 1000000 in
theorem walk (A0 : Option Addr) (a0 : Nat) (d : LaneD) (A B : Option Addr) (a b : Nat) (k x : List UInt8) (W : World) (hd : LaneB d) (hl : Bs W A0 a0 d.key) (hk : Bs W A a k) (hx : Bs W B b x) :
    Calls Try.prog 3 #[laneV A0 a0 d, .agg #[.slice A k.length a, .slice B x.length b]] W fun e W' => e = .returned (.bool true) ∧ Below W.heap.size W W' := by
  have C1 := Lib.hid (fun w h => refLane A0 a0 d w h)
  have P1 := Lib.hid (fun A c w h => putLane_any A c d w h hd)
  have P2 := Lib.hid (fun w h => refPutLane_any A0 a0 d w h hd)
  have RW := Lib.hid (fun w h h' => row_any A B a b k x w h h')
  have G1 := Lib.hid (fun A B c d w h h' => getLane_any A B c d k x w h h')
  have G2 := Lib.hid (fun w h h' => refGetLane_any A B a b k x w h h')
  generalize hp : putLane d = p at *
  obtain ⟨k', v', code⟩ := p
  dsimp only at P1 P2
  generalize laneGet k x = got at *
  obtain ⟨gd, gc⟩ := got
  have SL := Lib.hid (fun A B a b w h1 h2 => sameLane_refl A B a b gd w h1 h2)
  unfold laneV at P1 P2 SL C1 ⊢
  obtain ⟨key, side, cur, next, sc, ceil, sec, nano⟩ := d
  dsimp only at P1 P2 hl C1 ⊢
  have H0 := Lib.hid (TwoB.start 27 29 W #[.slice A0 key.length a0, .int .i64 side, .int .i64 cur, .int .i64 next, .int .u64 (sc : Int), .int .u64 (ceil : Int), .int .i64 sec, .int .i64 nano] #[.slice A k.length a, .slice B x.length b])
  have HL := Lib.hid hl
  have HK := Lib.hid hk
  have HX := Lib.hid hx
  clear hp hk hx hl hd
  go_enter Try.func3, Try.ntmps3
  go_wp2_with fail
  refine (C1.out _ (H0.out.bs HL.out)).mono ?_
  rintro e w0 ⟨A9, c9, rfl, s9, hb0⟩
  unfold laneV
  dsimp only at s9 ⊢
  have H00 := Lib.hid (H0.out.step hb0)
  have S9 := Lib.hid s9
  clear hb0 s9
  go_wp2_with fail
  refine (P1.out A9 c9 _ S9.out).mono ?_
  rintro e w1 ⟨v1, v2, rfl, o1, o2, hb1⟩
  obtain ⟨A1, c1, rfl, s1⟩ := o1.bs
  obtain ⟨A2, c2, rfl, s2⟩ := o2.bs
  have hq := below_alloc (Below.refl w1.heap.size w1) (.cells #[.slice A1 k'.length c1, .slice A2 v'.length c2] 29)
  have h1 := (H00.out.step hb1).step hq
  obtain ⟨p0, p1, p2, p3, p4, p5, p6, p7⟩ := lane_cells (A := A0) (n := key.length) (c := a0) (side := side) (cur := cur) (next := next) (sc := sc) (ce := ceil) (se := sec) (na := nano) h1.a
  have H1 := Lib.hid h1
  have L1 := Lib.hid (blk_new w1 (.cells #[.slice A1 k'.length c1, .slice A2 v'.length c2] 29))
  have S1 := Lib.hid (s1.below hq)
  have S2 := Lib.hid (s2.below hq)
  clear o1 o2 hb1 s1 s2 hq h1
  go_wp2_with fail
  refine (P2.out _ (H1.out.bs HL.out)).mono ?_
  rintro e w2 ⟨v1, v2, rfl, o1, o2, hb1⟩
  obtain ⟨A3, c3, rfl, s1⟩ := o1.bs
  obtain ⟨A4, c4, rfl, s2⟩ := o2.bs
  have hq := below_alloc (Below.refl w2.heap.size w2) (.cells #[.slice A3 k'.length c3, .slice A4 v'.length c4] 29)
  have H2 := Lib.hid ((H1.out.step hb1).step hq)
  have l1 := blk_step (blk_step L1.out hb1) hq
  have y0 := (blk_cell l1 0).trans (b := some (Value.slice A1 k'.length c1)) rfl
  have y1 := (blk_cell l1 1).trans (b := some (Value.slice A2 v'.length c2)) rfl
  have SR := sameRow A1 A2 A3 A4 c1 c2 c3 c4 k' v' k' v' _ ((S1.out.below hb1).below hq) ((S2.out.below hb1).below hq) (s1.below hq) (s2.below hq)
  rw [show (decide (k' = k') && decide (v' = v')) = true by simp] at SR
  have SS := Lib.hid SR
  clear o1 o2 hb1 s1 s2 hq l1 SR L1 S1 S2 p0 p1 p2 p3 p4 p5 p6 p7
  go_wp2_with fail
  refine SS.out.mono ?_
  rintro e w3 ⟨rfl, hb1⟩
  have h3 := H2.out.step hb1
  have y0 := (blk_cell h3.b 0).trans (b := some (Value.slice A k.length a)) rfl
  have y1 := (blk_cell h3.b 1).trans (b := some (Value.slice B x.length b)) rfl
  have H3 := Lib.hid h3
  clear hb1 h3 SS
  go_wp2_with fail
  refine (RW.out _ (H3.out.bs HK.out) (H3.out.bs HX.out)).mono ?_
  rintro e w4 ⟨A5, c5, A6, c6, rfl, s1, s2, hb1⟩
  have H4 := Lib.hid (H3.out.step hb1)
  have S5 := Lib.hid s1
  have S6 := Lib.hid s2
  clear s1 s2 hb1
  go_wp2_with fail
  refine (G1.out A5 A6 c5 c6 _ S5.out S6.out).mono ?_
  rintro e w5 ⟨A7, c7, rfl, s7, hb1⟩
  unfold laneV
  dsimp only at s7 ⊢
  have hq := below_alloc (Below.refl w5.heap.size w5) (.cells (lnC A7 gd.key.length c7 gd.side gd.cur gd.next gd.sc gd.ceil gd.sec gd.nano) 27)
  have h5 := (H4.out.step hb1).step hq
  have L5 := Lib.hid (blk_new w5 (.cells (lnC A7 gd.key.length c7 gd.side gd.cur gd.next gd.sc gd.ceil gd.sec gd.nano) 27))
  have S7 := Lib.hid (s7.below hq)
  have y0 := (blk_cell h5.b 0).trans (b := some (Value.slice A k.length a)) rfl
  have y1 := (blk_cell h5.b 1).trans (b := some (Value.slice B x.length b)) rfl
  unfold lnC at y0 y1
  have H5 := Lib.hid h5
  clear hb1 h5 hq s7
  go_wp2_with fail
  refine (G2.out _ (H5.out.bs HK.out) (H5.out.bs HX.out)).mono ?_
  rintro e w6 ⟨A8, c8, rfl, s8, hb1⟩
  unfold laneV
  dsimp only at s8 ⊢
  have hq := below_alloc (Below.refl w6.heap.size w6) (.cells (lnC A8 gd.key.length c8 gd.side gd.cur gd.next gd.sc gd.ceil gd.sec gd.nano) 27)
  have H6 := Lib.hid ((H5.out.step hb1).step hq)
  obtain ⟨p0, p1, p2, p3, p4, p5, p6, p7⟩ := lane_cells (blk_step (blk_step L5.out hb1) hq)
  unfold lnC at p0 p1 p2 p3 p4 p5 p6 p7
  have SM := Lib.hid (SL.out A7 A8 c7 c8 _ ((S7.out.below hb1).below hq) (s8.below hq))
  clear hb1 hq s8
  go_wp2_with fail
  refine SM.out.mono ?_
  rintro e w7 ⟨rfl, hb1⟩
  have H7 := Lib.hid (H6.out.step hb1)
  clear hb1
  go_wp2_with (go_at_call 16; refine (num_any _ _).mono ?_; rintro e w' ⟨rfl, rfl⟩)
  refine (first_any _).mono ?_
  rintro e w8 ⟨rfl, hb1⟩
  have H8 := Lib.hid (H7.out.step hb1)
  clear hb1
  go_wp2_with fail
  go_ret
  exact ⟨rfl, H8.out.below⟩
end Go.Proofs.Ytgbjhlkjceonpaa.rowsLanes
