/- The walks of GetLane, Lane, SameLane. -/
import Derived.Test.YtgbjhlkjceonpaaLanH
namespace Go.Proofs.Ytgbjhlkjceonpaa.Help
open Go.RowKit Go.Proofs.Ytgbjhlkjceonpaa.K
set_option linter.unusedVariables false

/-- a box of what came in, and the answer's box of a lane -/
structure LnZ (t : TypeId) (w w' : World) (cs : Array Value) : Prop where
  b : w'.heap[w.heap.size]? = some (.cells cs t (0, 0))
  r : w'.heap[w.heap.size + 1]? = some (.cells (lnC none 0 0 0 0 0 0 0 0 0) 27 (0, 0))
  below : Below w.heap.size w w'
section
variable {t : TypeId} {w w' w2 : World} {cs : Array Value}
theorem LnZ.start (t : TypeId) (w : World) (cs : Array Value) : LnZ t w ((w.alloc (.cells cs t)).alloc (.cells (lnC none 0 0 0 0 0 0 0 0 0) 27)) cs :=
  ⟨blk_alloc (blk_new _ _) _, by have := blk_new (w.alloc (.cells cs t)) (.cells (lnC none 0 0 0 0 0 0 0 0 0) 27); simpa using this, below_alloc (below_alloc (Below.refl _ _) _) _⟩
theorem LnZ.step (h : LnZ t w w' cs) (hb : Below w'.heap.size w' w2) : LnZ t w w2 cs := ⟨(hb.block _ (blk_lt h.b)).trans h.b, (hb.block _ (blk_lt h.r)).trans h.r, below_step h.below hb⟩
theorem LnZ.only {T : Nat → Prop} (h : LnZ t w w' cs) (k : Only w' w2 T) (hT : ∀ i, T i → w.heap.size + 1 < i) : LnZ t w w2 cs :=
  ⟨k.blk h.b (fun h2 => by have := hT _ h2; omega), k.blk h.r (fun h2 => by have := hT _ h2; omega), below_only h.below k (fun i hi => by have := hT i hi; omega)⟩
theorem LnZ.cell (h : LnZ t w w' cs) (j : Nat) : w'.cell? ⟨w.heap.size, j, none⟩ = cs[j]? := blk_cell h.b j
theorem LnZ.bs (h : LnZ t w w' cs) {A : Option Addr} {c : Nat} {l : List UInt8} (hs : Bs w A c l) : Bs w' A c l := hs.below h.below
theorem LnZ.lt (h : LnZ t w w' cs) : w.heap.size + 1 < w'.heap.size := blk_lt h.r
theorem LnZ.rb (h : LnZ t w w' cs) {A : Option Addr} {c : Nat} {key : List UInt8} (hs : Bs w' A c key) : RB w w' (fun _ => False) A c key (w.heap.size + 1) 27 (lnC none 0 0 0 0 0 0 0 0 0) :=
  ⟨h.r, lnC_noU8 _ _ _ _ _ _ _ _ _ _, hs, Only.of_below h.below _, by omega⟩
end

set_option maxRecDepth 100000 in
set_option maxHeartbeats 1000000 in
theorem getLane_any (A B : Option Addr) (c d : Nat) (k v : List UInt8) (w : World) (ha : Bs w A c k) (hb : Bs w B d v) :
    Calls Try.prog 12 #[.agg #[.slice A k.length c, .slice B v.length d]] w (GotL w (laneGet k v)) := by
  have H0 := Lib.hid (LnZ.start 29 w #[.slice A k.length c, .slice B v.length d])
  have R := Lib.hid (readLane A B c d k v _ (H0.out.bs ha) (H0.out.bs hb))
  clear ha hb
  generalize laneGet k v = got at *
  obtain ⟨⟨key, side, cur, next, sc, ceil, sec, nano⟩, code⟩ := got
  go_enter Try.func12, Try.ntmps12
  go_wp2_with fail
  refine R.out.mono ?_
  rintro e w1 ⟨A2, c2, rfl, hs, hb1⟩
  unfold laneV
  dsimp only at hs ⊢
  have h1 := H0.out.step hb1
  obtain ⟨r0, r1, r2, r3, r4, r5, r6, r7, z0, z1, z2, z3, z4, z5, z6, z7⟩ := zero_cells h1.r
  have FF := Lib.hid ((h1.rb hs).fill8 A2 key.length c2 side cur next sc ceil sec nano)
  have JJ := Lib.hid (lane_cells FF.out.r)
  unfold fill8 at JJ
  clear hb1 hs h1
  go_wp2_with fail
  obtain ⟨j0, j1, j2, j3, j4, j5, j6, j7⟩ := JJ.out
  exact bodyPost_ret (v := .tuple #[.agg #[.slice A2 key.length c2, .int .i64 side, .int .i64 cur, .int .i64 next, .int .u64 (sc : Int), .int .u64 (ceil : Int), .int .i64 sec, .int .i64 nano], .int .i64 code]) (by simp [results, Try.results12, go_sem, j0, j1, j2, j3, j4, j5, j6, j7]) rfl ⟨A2, c2, rfl, FF.out.bs, FF.out.below⟩

/-- a lane in new memory -/
def LaneC (w : World) (d : LaneD) (e : Ending) (w' : World) : Prop := ∃ A c, e = .returned (laneV A c d) ∧ Bs w' A c d.key ∧ Below w.heap.size w w'
set_option maxRecDepth 100000 in
set_option maxHeartbeats 1000000 in
theorem refLane (A : Option Addr) (c : Nat) (d : LaneD) (w : World) (hs : Bs w A c d.key) :
    Calls Try.prog 9 #[laneV A c d] w (LaneC w d) := by
  obtain ⟨key, side, cur, next, sc, ceil, sec, nano⟩ := d
  unfold laneV
  dsimp only at *
  have H0 := Lib.hid (LnZ.start 27 w #[.slice A key.length c, .int .i64 side, .int .i64 cur, .int .i64 next, .int .u64 (sc : Int), .int .u64 (ceil : Int), .int .i64 sec, .int .i64 nano])
  have R := Lib.hid (bytes A c key _ (H0.out.bs hs))
  clear hs
  go_enter Try.func9, Try.ntmps9
  go_wp2_with fail
  refine R.out.mono ?_
  rintro e w1 ⟨v1, rfl, o1, hb1⟩
  obtain ⟨A2, c2, rfl, s1⟩ := o1.bs
  have h1 := H0.out.step hb1
  have b0 : w1.cell? ⟨w.heap.size, 0, none⟩ = some (.slice A key.length c) := h1.cell 0
  have b1 : w1.cell? ⟨w.heap.size, 1, none⟩ = some (.int .i64 side) := h1.cell 1
  have b2 : w1.cell? ⟨w.heap.size, 2, none⟩ = some (.int .i64 cur) := h1.cell 2
  have b3 : w1.cell? ⟨w.heap.size, 3, none⟩ = some (.int .i64 next) := h1.cell 3
  have b4 : w1.cell? ⟨w.heap.size, 4, none⟩ = some (.int .u64 (sc : Int)) := h1.cell 4
  have b5 : w1.cell? ⟨w.heap.size, 5, none⟩ = some (.int .u64 (ceil : Int)) := h1.cell 5
  have b6 : w1.cell? ⟨w.heap.size, 6, none⟩ = some (.int .i64 sec) := h1.cell 6
  have b7 : w1.cell? ⟨w.heap.size, 7, none⟩ = some (.int .i64 nano) := h1.cell 7
  have b8 := blk_free h1.b 0
  obtain ⟨r0, r1, r2, r3, r4, r5, r6, r7, z0, z1, z2, z3, z4, z5, z6, z7⟩ := zero_cells h1.r
  have s2 : Bs (w1.setCell ⟨w.heap.size, 0, none⟩ (.slice A2 key.length c2)) A2 c2 key :=
    bs_only s1 ((Only.refl w1 (fun k => k = w.heap.size)).setCell (p := ⟨w.heap.size, 0, none⟩) (.inl rfl) _) (fun i hi _ => by
      rw [hi]; exact NoU8.of h1.b (lnC_noU8 A key.length c side cur next sc ceil sec nano))
  have hb2 : Below w.heap.size w (w1.setCell ⟨w.heap.size, 0, none⟩ (.slice A2 key.length c2)) := h1.below.setCell (p := ⟨w.heap.size, 0, none⟩) (Nat.le_refl _) _
  have q0 : RB w (w1.setCell ⟨w.heap.size, 0, none⟩ (.slice A2 key.length c2)) (fun _ => False) A2 c2 key (w.heap.size + 1) 27 (lnC none 0 0 0 0 0 0 0 0 0) :=
    ⟨blk_far h1.r (by simp) _, lnC_noU8 _ _ _ _ _ _ _ _ _ _, s2, Only.of_below hb2 _, by omega⟩
  have FF := Lib.hid (q0.fill8 A2 key.length c2 side cur next sc ceil sec nano)
  have JJ := Lib.hid (lane_cells FF.out.r)
  unfold fill8 at JJ
  clear hb1 o1 s1 h1 s2 hb2 q0
  go_wp2_with fail
  obtain ⟨j0, j1, j2, j3, j4, j5, j6, j7⟩ := JJ.out
  exact bodyPost_ret (v := .agg #[.slice A2 key.length c2, .int .i64 side, .int .i64 cur, .int .i64 next, .int .u64 (sc : Int), .int .u64 (ceil : Int), .int .i64 sec, .int .i64 nano]) (by simp [results, Try.results9, go_sem, j0, j1, j2, j3, j4, j5, j6, j7]) rfl ⟨A2, c2, rfl, FF.out.bs, FF.out.below⟩
end Go.Proofs.Ytgbjhlkjceonpaa.Help
