/- The walk of SameLane over two lanes of the same data. -/
import Derived.Test.YtgbjhlkjceonpaaLanI
namespace Go.Proofs.Ytgbjhlkjceonpaa.Help
open Go.RowKit Go.Proofs.Ytgbjhlkjceonpaa.K
set_option linter.unusedVariables false

theorem sameStamp_refl (sec nano : Int) (w : World) : Calls Try.prog 53 #[.agg #[.int .i64 sec, .int .i64 nano], .agg #[.int .i64 sec, .int .i64 nano]] w (Pure w (.bool true)) := by
  go_enter Try.func53, Try.ntmps53
  go_wp2_with fail
  go_ret
  exact ⟨rfl, below_alloc (below_alloc (Below.refl _ _) _) _⟩
/-- two lanes' boxes -/
structure LL (w W : World) (x y : Array Value) : Prop where
  a : W.heap[w.heap.size]? = some (.cells x 27 (0, 0))
  b : W.heap[w.heap.size + 1]? = some (.cells y 27 (0, 0))
  below : Below w.heap.size w W
theorem LL.start (w : World) (x y : Array Value) : LL w ((w.alloc (.cells x 27)).alloc (.cells y 27)) x y :=
  ⟨blk_alloc (blk_new _ _) _, by have := blk_new (w.alloc (.cells x 27)) (.cells y 27); simpa using this, below_alloc (below_alloc (Below.refl _ _) _) _⟩
theorem LL.step {w W w2 : World} {x y : Array Value} (h : LL w W x y) (hb : Below W.heap.size W w2) : LL w w2 x y := ⟨(hb.block _ (blk_lt h.a)).trans h.a, (hb.block _ (blk_lt h.b)).trans h.b, below_step h.below hb⟩
theorem LL.drewN {w W : World} {x y : Array Value} (h : LL w W x y) (n : Nat) : LL w (W.drewN n) x y := ⟨h.a, h.b, below_drewN h.below n⟩
set_option maxRecDepth 100000 in
set_option maxHeartbeats 1000000 in
theorem sameLane_refl (A B : Option Addr) (a b : Nat) (d : LaneD) (w : World) (h1 : Bs w A a d.key) (h2 : Bs w B b d.key) :
    Calls Try.prog 15 #[laneV A a d, laneV B b d] w (Pure w (.bool true)) := by
  obtain ⟨key, side, cur, next, sc, ceil, sec, nano⟩ := d
  unfold laneV
  dsimp only at *
  have H0 := Lib.hid (LL.start w #[.slice A key.length a, .int .i64 side, .int .i64 cur, .int .i64 next, .int .u64 (sc : Int), .int .u64 (ceil : Int), .int .i64 sec, .int .i64 nano] #[.slice B key.length b, .int .i64 side, .int .i64 cur, .int .i64 next, .int .u64 (sc : Int), .int .u64 (ceil : Int), .int .i64 sec, .int .i64 nano])
  have T1 := Lib.hid (sameBytes A B a b key key _ (h1.below H0.out.below) (h2.below H0.out.below))
  rw [show decide (key = key) = true from decide_eq_true rfl] at T1
  clear h1 h2
  go_enter Try.func15, Try.ntmps15
  go_wp2_with fail
  refine T1.out.mono ?_
  rintro e w1 ⟨n1, rfl, rfl⟩
  clear T1
  generalize (w.alloc (.cells #[.slice A key.length a, .int .i64 side, .int .i64 cur, .int .i64 next, .int .u64 (sc : Int), .int .u64 (ceil : Int), .int .i64 sec, .int .i64 nano] 27)).alloc (.cells #[.slice B key.length b, .int .i64 side, .int .i64 cur, .int .i64 next, .int .u64 (sc : Int), .int .u64 (ceil : Int), .int .i64 sec, .int .i64 nano] 27) = W0 at H0 ⊢
  obtain ⟨p0, p1, p2, p3, p4, p5, p6, p7⟩ := lane_cells H0.out.a
  obtain ⟨q0, q1, q2, q3, q4, q5, q6, q7⟩ := lane_cells H0.out.b
  obtain ⟨r0, r1, r2, r3, r4, r5, r6, r7⟩ := lane_cells (H0.out.drewN n1).a
  obtain ⟨s0, s1, s2, s3, s4, s5, s6, s7⟩ := lane_cells (H0.out.drewN n1).b
  go_wp2_with fail
  refine (sameStamp_refl sec nano _).mono ?_
  rintro e w2 ⟨rfl, hb2⟩
  have h3 := (H0.out.drewN n1).step hb2
  obtain ⟨p0, p1, p2, p3, p4, p5, p6, p7⟩ := lane_cells h3.a
  obtain ⟨q0, q1, q2, q3, q4, q5, q6, q7⟩ := lane_cells h3.b
  have HB3 := Lib.hid h3.below
  clear hb2 h3
  go_wp2_with fail
  go_ret
  exact ⟨rfl, HB3.out⟩

set_option maxRecDepth 100000 in
theorem num_any (x : Int) (w : World) : Calls Try.prog 16 #[.int .i64 x] w fun e w' => e = .returned (.int .i64 x) ∧ w = w' := by
  go_enter Try.func16, Try.ntmps16
  go_wp2_with fail
  go_ret
  exact ⟨rfl, rfl⟩
/-- a row in new memory -/
def RowC (w : World) (k v : List UInt8) (e : Ending) (w' : World) : Prop := ∃ A a B b, e = .returned (.agg #[.slice A k.length a, .slice B v.length b]) ∧ Bs w' A a k ∧ Bs w' B b v ∧ Below w.heap.size w w'
theorem noU8_2 (x y : Value) (hx : ∀ b, x ≠ .int .u8 b) (hy : ∀ b, y ≠ .int .u8 b) : ∀ (j : Nat) (b : Int), (#[x, y] : Array Value)[j]? ≠ some (.int .u8 b) := by
  intro j b e
  match j with
  | 0 => simp at e; exact hx b e
  | 1 => simp at e; exact hy b e
  | (j + 2) => simp at e
theorem rowc_done {t : TypeId} {w w2 : World} {cs : Array Value} {A1 A2 : Option Addr} {c1 c2 : Nat} {k v : List UInt8} (h : LnS t w w2 cs) (s1 : Bs w2 A1 c1 k) (s2 : Bs w2 A2 c2 v) :
    RowC w k v (.returned (.agg #[.slice A1 k.length c1, .slice A2 v.length c2])) ((w2.setCell ⟨w.heap.size + 1, 0, none⟩ (.slice A1 k.length c1)).setCell ⟨w.heap.size + 1, 1, none⟩ (.slice A2 v.length c2)) := by
  have ho : Only w2 ((w2.setCell ⟨w.heap.size + 1, 0, none⟩ (.slice A1 k.length c1)).setCell ⟨w.heap.size + 1, 1, none⟩ (.slice A2 v.length c2)) (fun k => k = w.heap.size + 1) :=
    ((Only.refl w2 (fun k => k = w.heap.size + 1)).setCell (p := ⟨w.heap.size + 1, 0, none⟩) (.inl rfl) _).setCell (p := ⟨w.heap.size + 1, 1, none⟩) (.inl rfl) _
  have hn : ∀ i, i = w.heap.size + 1 → i < w2.heap.size → NoU8 w2 i := fun i hi _ => by rw [hi]; exact NoU8.of h.r (noU8_2 _ _ (by intro b e; cases e) (by intro b e; cases e))
  exact ⟨A1, c1, A2, c2, rfl, bs_only s1 ho hn, bs_only s2 ho hn, below_only h.below ho (fun i hi => by rw [hi]; omega)⟩
set_option maxRecDepth 100000 in
set_option maxHeartbeats 1000000 in
theorem row_any (A B : Option Addr) (c d : Nat) (k v : List UInt8) (w : World) (ha : Bs w A c k) (hb : Bs w B d v) :
    Calls Try.prog 13 #[.agg #[.slice A k.length c, .slice B v.length d]] w (RowC w k v) := by
  have hst : Below w.heap.size w ((w.alloc (.cells #[.slice A k.length c, .slice B v.length d] 29)).alloc (.cells #[.slice none 0 0, .slice none 0 0] 29)) := below_alloc (below_alloc (Below.refl _ _) _) _
  have H0 := Lib.hid (LnS.start 29 w #[.slice A k.length c, .slice B v.length d])
  have P := Lib.hid (fun W h => bytes A c k W h)
  have Q := Lib.hid (fun W h => bytes B d v W h)
  have HA := Lib.hid ha
  have HB := Lib.hid hb
  clear ha hb hst
  go_enter Try.func13, Try.ntmps13
  have s0 : ((w.alloc (.cells #[.slice A k.length c, .slice B v.length d] 29)).alloc (.cells #[.slice none 0 0, .slice none 0 0] 29)).cell? ⟨w.heap.size, 0, none⟩ = some (.slice A k.length c) := H0.out.cell 0
  have s1 : ((w.alloc (.cells #[.slice A k.length c, .slice B v.length d] 29)).alloc (.cells #[.slice none 0 0, .slice none 0 0] 29)).cell? ⟨w.heap.size, 1, none⟩ = some (.slice B v.length d) := H0.out.cell 1
  go_wp2_with fail
  generalize (w.alloc (.cells #[.slice A k.length c, .slice B v.length d] 29)).alloc (.cells #[.slice none 0 0, .slice none 0 0] 29) = W0 at H0 s0 s1 ⊢
  go_region_held3 (fun w' => w'.cell? ⟨w.heap.size, 0, none⟩ = some (.slice A k.length c) ∧ w'.cell? ⟨w.heap.size, 1, none⟩ = some (.slice B v.length d)) (first | go_keep | exact ⟨d0, d1⟩ | exact ⟨e0, e1⟩ | exact ⟨i0, i1⟩)
    (first
    | (go_at_call_of 38 (Value.slice B v.length d); refine (Q.out _ (by first | exact H1.out.bs HB.out | exact (H1.out.drewN _).bs HB.out)).mono ?_; rintro e w2 ⟨v2, rfl, o2, hb2⟩; obtain ⟨A2, c2, rfl, t2⟩ := o2.bs
       have h2 : LnS 29 w w2 _ := (by first | exact H1.out.step hb2 | exact (H1.out.drewN _).step hb2)
       have e0 : w2.cell? ⟨w.heap.size, 0, none⟩ = some (.slice A k.length c) := h2.cell 0
       have e1 : w2.cell? ⟨w.heap.size, 1, none⟩ = some (.slice B v.length d) := h2.cell 1
       have r0 : w2.cell? ⟨w.heap.size + 1, 0, none⟩ = some (.slice none 0 0) := blk_cell h2.r 0
       have r1 : w2.cell? ⟨w.heap.size + 1, 1, none⟩ = some (.slice none 0 0) := blk_cell h2.r 1
       have z0 := blk_free h2.r 0
       have z1 := blk_free h2.r 1
       have ff := blk_set (blk_set h2.r 0 (.slice A1 k.length c1)) 1 (.slice A2 v.length c2)
       have fb := blk_far (blk_far h2.b (p := ⟨w.heap.size + 1, 0, none⟩) (by simp) (.slice A1 k.length c1)) (p := ⟨w.heap.size + 1, 1, none⟩) (by simp) (.slice A2 v.length c2)
       have j0 := Lib.hid ((blk_cell ff 0).trans (b := some (Value.slice A1 k.length c1)) rfl)
       have j1 := Lib.hid ((blk_cell ff 1).trans (b := some (Value.slice A2 v.length c2)) rfl)
       have i0 := (blk_cell fb 0).trans (b := some (Value.slice A k.length c)) rfl
       have i1 := (blk_cell fb 1).trans (b := some (Value.slice B v.length d)) rfl
       have H2 := Lib.hid h2
       have S2 := Lib.hid t2
       have S1' : Hid (Bs w2 A1 c1 k) := Lib.hid (by first | exact S1.out.below hb2 | exact (S1.out.drewN _).below hb2)
       clear o2 hb2 t2 h2 ff fb)
    | (go_at_call_of 38 (Value.slice A k.length c); refine (P.out _ (by first | exact H0.out.bs HA.out | exact (H0.out.drewN _).bs HA.out)).mono ?_; rintro e w1 ⟨v1, rfl, o1, hb1⟩; obtain ⟨A1, c1, rfl, t1⟩ := o1.bs
       have h1 : LnS 29 w w1 _ := (by first | exact H0.out.step hb1 | exact (H0.out.drewN _).step hb1)
       have d0 : w1.cell? ⟨w.heap.size, 0, none⟩ = some (.slice A k.length c) := h1.cell 0
       have d1 : w1.cell? ⟨w.heap.size, 1, none⟩ = some (.slice B v.length d) := h1.cell 1
       have H1 := Lib.hid h1
       have S1 := Lib.hid t1
       clear o1 hb1 t1 h1))
  go_wp2_with fail
  have fin := rowc_done H2.out S1'.out S2.out
  exact bodyPost_ret (v := .agg #[.slice A1 k.length c1, .slice A2 v.length c2]) (by simp [results, Try.results13, go_sem, j0.out, j1.out]) rfl fin
set_option maxRecDepth 100000 in
set_option maxHeartbeats 1000000 in
theorem key_any (x : UInt8) (w : World) : Calls Try.prog 54 #[.int .u8 (x.toNat : Int)] w (Ret w (List.replicate 32 x)) := by
  go_enter Try.func54, Try.ntmps54
  go_wp2_with fail
  go_loopg [3, 4] 32 (fun gk v i wr => ∃ k : Nat, k ≤ 32 ∧ gk = 32 - k ∧ i = .int .i64 (k : Int) ∧ Own wr w.heap.size v (List.replicate k x) ∧ Below w.heap.size w wr)
  case atStart => exact ⟨0, by omega, rfl, rfl, by simpa using Own.nil w _, Below.refl _ _⟩
  case round =>
    obtain ⟨k, hk, rfl, rfl, hO, hB⟩ := hrel
    obtain ⟨VA, vc, rfl, _⟩ := hO.bs
    have hlk : (List.replicate k x).length = k := List.length_replicate
    have HO := Lib.hid hO
    have HB := Lib.hid hB
    clear hO hB
    rw [hlk] at HO
    rw [hlk]
    by_cases hlt : k < 32
    · have hlt2 : (k : Int) < 32 := by omega
      have HX := Lib.hid (show List.replicate k x ++ [x] = List.replicate (k + 1) x from List.replicate_succ'.symm)
      have HK := Lib.hid hlk
      clear hlk
      go_wp2_with (at_builtin; refine push_u8 (W0 := w) rfl (.tmp 9) (.tmp 11) rfl (.slice VA k vc) (List.replicate k x) x rfl rfl HO.out HB.out (by rw [HK.out]; omega) ?_; intro A1 c1 w1 hO1 hB1; rw [HK.out] at hO1 ⊢; have HO1 := Lib.hid hO1; have HB1 := Lib.hid hB1; clear hO1 hB1)
      go_roundg (32 - (k + 1))
      case measure => omega
      case rel =>
        refine ⟨k + 1, by omega, rfl, by go_num, ?_, HB1.out⟩
        rw [← HX.out]; exact HO1.out
    · obtain rfl : k = 32 := by omega
      go_wp2_with fail
      go_ret
      exact ⟨_, rfl, by have := HO.out; rwa [← hlk] at this, HB.out⟩
end Go.Proofs.Ytgbjhlkjceonpaa.Help
