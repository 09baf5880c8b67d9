/- The walk of read[Lane]. -/
import Derived.Test.YtgbjhlkjceonpaaLanG
import Derived.Deep.DeepCutAuto
namespace Go.Proofs.Ytgbjhlkjceonpaa.Help
open Go.RowKit Go.Proofs.Ytgbjhlkjceonpaa.K
set_option linter.unusedVariables false

def zeroLane : LaneD := ⟨[], 0, 0, 0, 0, 0, 0, 0⟩
/-- what GetLane answers: the lane and the error -/
def laneGet (k v : List UInt8) : LaneD × Int := if (putLane (laneRd k v)).2.2 = 0 ∧ (putLane (laneRd k v)).1 = k ∧ (putLane (laneRd k v)).2.1 = v then (laneRd k v, 0) else (zeroLane, 114)
def GotL (w : World) (t : LaneD × Int) (e : Ending) (w' : World) : Prop := ∃ A c, e = .returned (.tuple #[laneV A c t.1, .int .i64 t.2]) ∧ Bs w' A c t.1.key ∧ Below w.heap.size w w'
/-- read's memory: the boxes of the row, of the answer, of the empty answer -/
structure RdL (w w' : World) (x y : Value) : Prop where
  b : w'.heap[w.heap.size]? = some (.cells #[x, y] 29 (0, 0))
  r : w'.heap[w.heap.size + 1]? = some (.cells (lnC none 0 0 0 0 0 0 0 0 0) 27 (0, 0))
  n : w'.heap[w.heap.size + 2]? = some (.cells (lnC none 0 0 0 0 0 0 0 0 0) 27 (0, 0))
  below : Below w.heap.size w w'
section
variable {w w' w2 : World} {x y : Value}
theorem RdL.c0 (h : RdL w w' x y) : w'.cell? ⟨w.heap.size, 0, none⟩ = some x := (blk_cell h.b 0).trans rfl
theorem RdL.c1 (h : RdL w w' x y) : w'.cell? ⟨w.heap.size, 1, none⟩ = some y := (blk_cell h.b 1).trans rfl
theorem RdL.start (w : World) (x y : Value) : RdL w (((w.alloc (.cells #[x, y] 29)).alloc (.cells (lnC none 0 0 0 0 0 0 0 0 0) 27)).alloc (.cells (lnC none 0 0 0 0 0 0 0 0 0) 27)) x y :=
  ⟨blk_alloc (blk_alloc (blk_new _ _) _) _, blk_alloc (by have := blk_new (w.alloc (.cells #[x, y] 29)) (.cells (lnC none 0 0 0 0 0 0 0 0 0) 27); simpa using this) _,
    by have := blk_new ((w.alloc (.cells #[x, y] 29)).alloc (.cells (lnC none 0 0 0 0 0 0 0 0 0) 27)) (.cells (lnC none 0 0 0 0 0 0 0 0 0) 27); simpa using this,
    below_alloc (below_alloc (below_alloc (Below.refl _ _) _) _) _⟩
theorem RdL.step (h : RdL w w' x y) (hb : Below w'.heap.size w' w2) : RdL w w2 x y := ⟨(hb.block _ (blk_lt h.b)).trans h.b, (hb.block _ (blk_lt h.r)).trans h.r, (hb.block _ (blk_lt h.n)).trans h.n, below_step h.below hb⟩
theorem RdL.drewN (h : RdL w w' x y) (n : Nat) : RdL w (w'.drewN n) x y := ⟨h.b, h.r, h.n, below_drewN h.below n⟩
theorem RdL.alloc (h : RdL w w' x y) (o : Obj) : RdL w (w'.alloc o) x y := h.step (below_alloc (Below.refl _ _) o)
theorem RdL.only {T : Nat → Prop} (h : RdL w w' x y) (k : Only w' w2 T) (hT : ∀ i, T i → w.heap.size + 2 < i) : RdL w w2 x y :=
  ⟨k.blk h.b (fun h2 => by have := hT _ h2; omega), k.blk h.r (fun h2 => by have := hT _ h2; omega), k.blk h.n (fun h2 => by have := hT _ h2; omega), below_only h.below k (fun i hi => by have := hT i hi; omega)⟩
theorem RdL.bs (h : RdL w w' x y) {A : Option Addr} {c : Nat} {l : List UInt8} (hs : Bs w A c l) : Bs w' A c l := hs.below h.below
theorem RdL.lt (h : RdL w w' x y) : w.heap.size + 2 < w'.heap.size := blk_lt h.n
end

/-- blocks of lanes stay -/
def PersL (W W' : World) : Prop := ∀ (g : Nat) (cs : Array Value) (fr : Nat × Nat), W.heap[g]? = some (Obj.cells cs 27 fr) → W'.heap[g]? = some (Obj.cells cs 27 fr)
theorem zero_cells {W : World} {X : Nat} (h : W.heap[X]? = some (.cells (lnC none 0 0 0 0 0 0 0 0 0) 27 (0, 0))) :
    W.cell? ⟨X, 0, none⟩ = some (.slice none 0 0) ∧ W.cell? ⟨X, 1, none⟩ = some (.int .i64 0) ∧ W.cell? ⟨X, 2, none⟩ = some (.int .i64 0) ∧ W.cell? ⟨X, 3, none⟩ = some (.int .i64 0) ∧ W.cell? ⟨X, 4, none⟩ = some (.int .u64 0) ∧ W.cell? ⟨X, 5, none⟩ = some (.int .u64 0) ∧ W.cell? ⟨X, 6, none⟩ = some (.int .i64 0) ∧ W.cell? ⟨X, 7, none⟩ = some (.int .i64 0) ∧
    W.frozen? ⟨X, 0, none⟩ = false ∧ W.frozen? ⟨X, 1, none⟩ = false ∧ W.frozen? ⟨X, 2, none⟩ = false ∧ W.frozen? ⟨X, 3, none⟩ = false ∧ W.frozen? ⟨X, 4, none⟩ = false ∧ W.frozen? ⟨X, 5, none⟩ = false ∧ W.frozen? ⟨X, 6, none⟩ = false ∧ W.frozen? ⟨X, 7, none⟩ = false :=
  ⟨blk_cell h 0, blk_cell h 1, blk_cell h 2, blk_cell h 3, blk_cell h 4, blk_cell h 5, blk_cell h 6, blk_cell h 7, blk_free h 0, blk_free h 1, blk_free h 2, blk_free h 3, blk_free h 4, blk_free h 5, blk_free h 6, blk_free h 7⟩
def NewR2 (w W : World) (x y : Value) (l : List UInt8) (e : Ending) (w2 : World) : Prop :=
  ∃ g r, e = .returned (.pointer (some ⟨g, 0, none⟩)) ∧ RdL w w2 x y ∧ Rdr w2 g r l 0 0 ∧ PersL W w2 ∧ (∀ g' r' k', Rdr W g' r' k' 0 0 → Rdr w2 g' r' k' 0 0 ∧ g' ≠ g ∧ g' ≠ r ∧ g ≠ r') ∧ w.heap.size + 2 < g
theorem newReader2 {w W : World} {x y : Value} (A : Option Addr) (c : Nat) (l : List UInt8) (hW : RdL w W x y) (hs : Bs w A c l) : Calls Try.prog 78 #[.slice A l.length c] W (NewR2 w W x y l) := by
  refine (newReader A c l W (hW.bs hs)).mono ?_
  rintro e w2 ⟨g, r, rfl, h1, h2, h3, h4⟩
  refine ⟨g, r, rfl, hW.step h2, h1, fun g cs fr h => (h2.block _ (blk_lt h)).trans h, fun g' r' k' h => ⟨h.below h2, ?_, ?_, ?_⟩, Nat.lt_of_lt_of_le hW.lt h3⟩
  · have := blk_lt h.b; omega
  · have := blk_lt h.b; omega
  · have := blk_lt h.r; omega
def GotR2 (w W : World) (x y : Value) (d : LaneD) (e : Ending) (w3 : World) : Prop := ∃ A c, e = .returned (laneV A c d) ∧ RdL w w3 x y ∧ Bs w3 A c d.key ∧ PersL W w3
theorem getLane2 {w W : World} {x y : Value} (gk rk gv rv : Nat) (k v : List UInt8) (hW : RdL w W x y) (hk : Rdr W gk rk k 0 0) (hv : Rdr W gv rv v 0 0) (n : gk ≠ gv ∧ gk ≠ rv ∧ gv ≠ rk) (h1 : w.heap.size + 2 < gk) (h2 : w.heap.size + 2 < gv) :
    Calls Try.prog 44 #[.pointer (some ⟨gk, 0, none⟩), .pointer (some ⟨gv, 0, none⟩)] W (GotR2 w W x y (laneRd k v)) := by
  refine (getLane1 gk rk gv rv k v W hk hv n.1 n.2.1 n.2.2).mono ?_
  rintro e w3 ⟨A, c, rfl, hb, ho⟩
  refine ⟨A, c, rfl, hW.only ho (fun i hi => ?_), hb, fun g cs fr h => ho.blk h (fun hi => ?_)⟩
  · rcases hi with rfl | rfl <;> assumption
  · rcases hi with rfl | rfl
    · exact blk_ne h hk.b (by decide) rfl
    · exact blk_ne h hv.b (by decide) rfl
/-- behind the readers: the lane in its box -/
def LCut (w : World) (x y : Value) (d : LaneD) (s9 : Value) (wx : World) : Prop :=
  ∃ X A c, s9 = .pointer (some ⟨X, 0, none⟩) ∧ RdL w wx x y ∧ Bs wx A c d.key ∧ wx.heap[X]? = some (.cells (lnC A d.key.length c d.side d.cur d.next d.sc d.ceil d.sec d.nano) 27 (0, 0)) ∧ w.heap.size + 2 < X
theorem LCut.mk' {w W : World} {x y : Value} {d : LaneD} {A : Option Addr} {c X : Nat} (hW : RdL w W x y) (hb : Bs W A c d.key) (hX : W.heap[X]? = some (.cells (lnC none 0 0 0 0 0 0 0 0 0) 27 (0, 0))) (hlt : w.heap.size + 2 < X) :
    LCut w x y d (.pointer (some ⟨X, 0, none⟩)) (fill8 W X A d.key.length c d.side d.cur d.next d.sc d.ceil d.sec d.nano) := by
  have h0 : RB w W (fun k => k = X) A c d.key X 27 (lnC none 0 0 0 0 0 0 0 0 0) := ⟨hX, lnC_noU8 _ _ _ _ _ _ _ _ _ _, hb, Only.of_below hW.below _, by omega⟩
  have h1 := h0.fill8 A d.key.length c d.side d.cur d.next d.sc d.ceil d.sec d.nano
  have ho : Only W (fill8 W X A d.key.length c d.side d.cur d.next d.sc d.ceil d.sec d.nano) (fun k => k = X) := by
    unfold fill8
    exact ((((((((Only.refl W (fun k => k = X)).setCell (p := ⟨X, 0, none⟩) (.inl rfl) _).setCell (p := ⟨X, 1, none⟩) (.inl rfl) _).setCell (p := ⟨X, 2, none⟩) (.inl rfl) _).setCell (p := ⟨X, 3, none⟩) (.inl rfl) _).setCell (p := ⟨X, 4, none⟩) (.inl rfl) _).setCell (p := ⟨X, 5, none⟩) (.inl rfl) _).setCell (p := ⟨X, 6, none⟩) (.inl rfl) _).setCell (p := ⟨X, 7, none⟩) (.inl rfl) _
  exact ⟨X, A, c, rfl, hW.only ho (fun i hi => by rw [hi]; exact hlt), h1.bs, h1.r, hlt⟩

theorem LCut.new {w W : World} {x y : Value} {d : LaneD} {A : Option Addr} {c : Nat} (hW : RdL w W x y) (hb : Bs W A c d.key) :
    LCut w x y d (.pointer (some ⟨W.heap.size, 0, none⟩)) (W.alloc (.cells (lnC A d.key.length c d.side d.cur d.next d.sc d.ceil d.sec d.nano) 27)) :=
  ⟨_, A, c, rfl, hW.alloc _, hb.below (below_alloc (Below.refl _ _) _), blk_new _ _, hW.lt⟩
theorem lane_cells {W : World} {X : Nat} {A : Option Addr} {n c : Nat} {side cur next sc ce se na : Int} (h : W.heap[X]? = some (.cells (lnC A n c side cur next sc ce se na) 27 (0, 0))) :
    W.cell? ⟨X, 0, none⟩ = some (.slice A n c) ∧ W.cell? ⟨X, 1, none⟩ = some (.int .i64 side) ∧ W.cell? ⟨X, 2, none⟩ = some (.int .i64 cur) ∧ W.cell? ⟨X, 3, none⟩ = some (.int .i64 next) ∧ W.cell? ⟨X, 4, none⟩ = some (.int .u64 sc) ∧ W.cell? ⟨X, 5, none⟩ = some (.int .u64 ce) ∧ W.cell? ⟨X, 6, none⟩ = some (.int .i64 se) ∧ W.cell? ⟨X, 7, none⟩ = some (.int .i64 na) :=
  ⟨blk_cell h 0, blk_cell h 1, blk_cell h 2, blk_cell h 3, blk_cell h 4, blk_cell h 5, blk_cell h 6, blk_cell h 7⟩
/-- the boxes and the lane -/
structure RdX (w W : World) (x y : Value) (X : Nat) (A : Option Addr) (c : Nat) (d : LaneD) : Prop where
  h : RdL w W x y
  bs : Bs W A c d.key
  bx : W.heap[X]? = some (.cells (lnC A d.key.length c d.side d.cur d.next d.sc d.ceil d.sec d.nano) 27 (0, 0))
theorem RdX.step {w W w2 : World} {x y : Value} {X : Nat} {A : Option Addr} {c : Nat} {d : LaneD} (h : RdX w W x y X A c d) (hb : Below W.heap.size W w2) : RdX w w2 x y X A c d :=
  ⟨h.h.step hb, h.bs.below hb, (hb.block _ (blk_lt h.bx)).trans h.bx⟩
theorem RdX.drewN {w W : World} {x y : Value} {X : Nat} {A : Option Addr} {c : Nat} {d : LaneD} (h : RdX w W x y X A c d) (n : Nat) : RdX w (W.drewN n) x y X A c d := ⟨h.h.drewN n, h.bs.drewN n, h.bx⟩
theorem RdX.rb {w W : World} {x y : Value} {X : Nat} {A : Option Addr} {c : Nat} {d : LaneD} (h : RdX w W x y X A c d) : RB w W (fun _ => False) A c d.key (w.heap.size + 1) 27 (lnC none 0 0 0 0 0 0 0 0 0) :=
  ⟨h.h.r, lnC_noU8 _ _ _ _ _ _ _ _ _ _, h.bs, Only.of_below h.h.below _, by omega⟩
theorem RB.below {w W : World} {A : Option Addr} {c : Nat} {key : List UInt8} {R : Nat} {t : TypeId} {cs : Array Value} (h : RB w W (fun _ => False) A c key R t cs) : Below w.heap.size w W := h.only.below (fun k hk => hk.elim) (Nat.le_refl _)
theorem stGet_le (l : List UInt8) : (stGet l).1 ≤ 9223372036854775807 := by
  unfold stGet
  split
  · split
    · decide
    · dsimp only; omega
  · decide
theorem laneRd_b (k v : List UInt8) : LaneB (laneRd k v) := by
  have h8 : ∀ (L : List UInt8) p e, val (takes L p 8 e).1 < 18446744073709551616 := fun L p e => Nat.lt_of_lt_of_le (val_pow (takes_len L p 8 e).1) (by decide)
  exact ⟨h8 _ _ _, h8 _ _ _, stGet_le _⟩

set_option maxRecDepth 100000 in
set_option maxHeartbeats 4000000 in
theorem readLane (A B : Option Addr) (c d : Nat) (k v : List UInt8) (w : World) (ha : Bs w A c k) (hb : Bs w B d v) :
    Calls Try.prog 43 #[.agg #[.slice A k.length c, .slice B v.length d], .func (.func 44) #[] #[], .func (.func 8) #[] #[]] w (GotL w (laneGet k v)) := by
  have HA := Lib.hid ha
  have HB := Lib.hid hb
  clear ha hb
  have H0 := Lib.hid (RdL.start w (.slice A k.length c) (.slice B v.length d))
  have s0 := H0.out.c0
  have s1 := H0.out.c1
  have G : Hid (∀ gk rk gv rv W, RdL w W (.slice A k.length c) (.slice B v.length d) → Rdr W gk rk k 0 0 → Rdr W gv rv v 0 0 → (gk ≠ gv ∧ gk ≠ rv ∧ gv ≠ rk) → w.heap.size + 2 < gk → w.heap.size + 2 < gv → Calls Try.prog 44 #[.pointer (some ⟨gk, 0, none⟩), .pointer (some ⟨gv, 0, none⟩)] W (GotR2 w W (.slice A k.length c) (.slice B v.length d) (laneRd k v))) :=
    Lib.hid (fun gk rk gv rv W h0 h1 h2 h3 h4 h5 => getLane2 gk rk gv rv k v h0 h1 h2 h3 h4 h5)
  generalize hg : laneGet k v = got
  have HG := Lib.hid hg
  clear hg
  unfold laneGet at HG
  have XB := Lib.hid (laneRd_b k v)
  generalize laneRd k v = x at *
  go_enter Try.func43, Try.ntmps43
  go_upto_region 2 with fail
  go_cut [9] (fun s9 wx => LCut w (.slice A k.length c) (.slice B v.length d) x s9 wx)
  case first =>
    have hlt0 := H0.out.lt
    unfold lnC at H0
    generalize ((w.alloc (.cells #[.slice A k.length c, .slice B v.length d] 29)).alloc (.cells #[.slice none 0 0, .int .i64 0, .int .i64 0, .int .i64 0, .int .u64 0, .int .u64 0, .int .i64 0, .int .i64 0] 27)).alloc (.cells #[.slice none 0 0, .int .i64 0, .int .i64 0, .int .i64 0, .int .u64 0, .int .u64 0, .int .i64 0, .int .i64 0] 27) = W0 at H0 ⊢
    clear hlt0 s0 s1
    have s0 := H0.out.c0
    have s1 := H0.out.c1
    go_region_held3 (fun w' => w'.cell? ⟨w.heap.size, 0, none⟩ = some (.slice A k.length c) ∧ w'.cell? ⟨w.heap.size, 1, none⟩ = some (.slice B v.length d)) (first | go_keep | exact ⟨d0, d1⟩ | exact ⟨e0, e1⟩ | exact ⟨f0, f1⟩)
      (first
      | (go_at_call 44; refine (G.out g1 r1 g2 r2 _ (by first | exact H2.out | exact H2.out.drewN _ | exact H2.out.alloc _ | exact (H2.out.alloc _).drewN _) (by first | exact R1'.out | exact R1'.out.drewN _ | exact R1'.out.below (below_alloc (Below.refl _ _) _) | exact (R1'.out.below (below_alloc (Below.refl _ _) _)).drewN _) (by first | exact R2.out | exact R2.out.drewN _ | exact R2.out.below (below_alloc (Below.refl _ _) _) | exact (R2.out.below (below_alloc (Below.refl _ _) _)).drewN _) NE.out L1.out L2.out).mono ?_; rintro e w3 ⟨A3, c3, rfl, h1, h2, h3⟩; unfold laneV; have f0 := h1.c0; have f1 := h1.c1; have H3 := Lib.hid h1; have S3 := Lib.hid h2; have P3 := Lib.hid h3; clear h1 h2 h3; (try (have zA := P3.out _ _ _ (P2.out _ _ _ (P1.out _ _ _ (blk_new W0 _))); obtain ⟨ya0, ya1, ya2, ya3, ya4, ya5, ya6, ya7, yb0, yb1, yb2, yb3, yb4, yb5, yb6, yb7⟩ := zero_cells zA; have ZA := Lib.hid zA; have nA1 : ¬ w.heap.size = W0.heap.size := (by have := H0.out.lt; omega); have nA2 : ¬ W0.heap.size = w.heap.size := (by have := H0.out.lt; omega); clear zA)); (try (have zB := P3.out _ _ _ (P2.out _ _ _ (blk_new w1 _)); obtain ⟨yc0, yc1, yc2, yc3, yc4, yc5, yc6, yc7, yd0, yd1, yd2, yd3, yd4, yd5, yd6, yd7⟩ := zero_cells zB; have ZB := Lib.hid zB; have nB1 : ¬ w.heap.size = w1.heap.size := (by have := H1.out.lt; omega); have nB2 : ¬ w1.heap.size = w.heap.size := (by have := H1.out.lt; omega); clear zB)); (try (have zC := P3.out _ _ _ (blk_new w2 _); obtain ⟨ye0, ye1, ye2, ye3, ye4, ye5, ye6, ye7, yf0, yf1, yf2, yf3, yf4, yf5, yf6, yf7⟩ := zero_cells zC; have ZC := Lib.hid zC; have nC1 : ¬ w.heap.size = w2.heap.size := (by have := H2.out.lt; omega); have nC2 : ¬ w2.heap.size = w.heap.size := (by have := H2.out.lt; omega); clear zC)))
      | (go_at_call_of 78 (Value.slice B v.length d); refine (newReader2 B d v (by first | exact H1.out | exact H1.out.drewN _ | exact H1.out.alloc _ | exact (H1.out.alloc _).drewN _) HB.out).mono ?_; rintro e w2 ⟨g2, r2, rfl, h1, h2, h3, h4, h5⟩
         have e0 := h1.c0
         have e1 := h1.c1
         have hh := h4 g1 r1 k (by first | exact R1.out | exact R1.out.drewN _ | exact R1.out.below (below_alloc (Below.refl _ _) _) | exact (R1.out.below (below_alloc (Below.refl _ _) _)).drewN _)
         have H2 := Lib.hid h1
         have R2 := Lib.hid h2
         have P2 := Lib.hid h3
         have R1' := Lib.hid hh.1
         have NE := Lib.hid hh.2
         have L2 := Lib.hid h5
         clear h1 h2 h3 h4 h5 hh)
      | (go_at_call_of 78 (Value.slice A k.length c); refine (newReader2 A c k (by first | exact H0.out | exact H0.out.drewN _ | exact H0.out.alloc _ | exact (H0.out.alloc _).drewN _) HA.out).mono ?_; rintro e w1 ⟨g1, r1, rfl, h1, h2, h3, h4, h5⟩
         have d0 := h1.c0
         have d1 := h1.c1
         have H1 := Lib.hid h1
         have R1 := Lib.hid h2
         have P1 := Lib.hid h3
         have L1 := Lib.hid h5
         clear h1 h2 h3 h4 h5))
    · go_wp2_with fail
      go_meet
      exact LCut.new H3.out S3.out
    · go_wp2_with fail
      go_meet
      exact LCut.mk' H3.out S3.out ZC.out H2.out.lt
    · go_wp2_with fail
      go_meet
      exact LCut.mk' H3.out S3.out ZB.out H1.out.lt
    · go_wp2_with fail
      go_meet
      exact LCut.mk' H3.out S3.out ZA.out H0.out.lt
  case rest =>
    obtain ⟨X, A2, c2, rfl, hr, hb, hX, hlt⟩ := hcut
    have hx0 : RdX w wc (.slice A k.length c) (.slice B v.length d) X A2 c2 x := ⟨hr, hb, hX⟩
    obtain ⟨p0, p1, p2, p3, p4, p5, p6, p7⟩ := lane_cells hX
    have HX0 := Lib.hid hx0
    have P := Lib.hid (putLane_any A2 c2 x wc hb XB.out)
    clear hr hb hX hx0
    have hXne : ¬ w.heap.size = X := by omega
    generalize putLane x = pl at *
    obtain ⟨k', v', code⟩ := pl
    dsimp only at P HG
    obtain ⟨key, side, cur, next, sc, ceil, sec, nano⟩ := x
    unfold laneV at P
    dsimp only at *
    go_wp2_with fail
    refine P.out.mono ?_
    rintro e w4 ⟨v1, v2, rfl, o1, o2, hb4⟩
    obtain ⟨B1, d1, rfl, q1⟩ := o1.bs
    obtain ⟨B2, d2, rfl, q2⟩ := o2.bs
    have hb5 := below_alloc hb4 (.cells #[.slice B1 k'.length d1, .slice B2 v'.length d2] 29)
    have hb6 := below_alloc (Below.refl w4.heap.size w4) (.cells #[.slice B1 k'.length d1, .slice B2 v'.length d2] 29)
    have hx5 := HX0.out.step hb5
    have m0 := hx5.h.c0
    have m1 := hx5.h.c1
    obtain ⟨p0, p1, p2, p3, p4, p5, p6, p7⟩ := lane_cells hx5.bx
    obtain ⟨r0, r1, r2, r3, r4, r5, r6, r7, z0, z1, z2, z3, z4, z5, z6, z7⟩ := zero_cells hx5.h.r
    obtain ⟨n0, n1, n2, n3, n4, n5, n6, n7, -, -, -, -, -, -, -, -⟩ := zero_cells hx5.h.n
    have H5 := Lib.hid hx5
    have Q1 := Lib.hid (q1.below hb6)
    have Q2 := Lib.hid (q2.below hb6)
    clear o1 o2 hb4 q1 q2 hb5 hb6 hx5
    by_cases hc : code = 0
    · subst hc
      go_wp2_with fail
      refine (bytesEqual B1 A d1 c k' k _ Q1.out (H5.out.h.bs HA.out)).mono ?_
      rintro e w5 ⟨n1, rfl, rfl⟩
      by_cases hk : k' = k
      · have hd : decide (k' = k) = true := decide_eq_true hk
        rw [hd]
        have HK := Lib.hid hk
        clear hk hd
        go_wp2_with fail
        refine (bytesEqual B2 B d2 d v' v _ (Q2.out.drewN n1) ((H5.out.h.drewN n1).bs HB.out)).mono ?_
        rintro e w5 ⟨n2, rfl, rfl⟩
        by_cases hv : v' = v
        · have hd2 : decide (v' = v) = true := decide_eq_true hv
          rw [hd2]
          have hG := HG.out
          rw [if_pos (by refine ⟨?_, HK.out, hv⟩; trivial)] at hG
          subst hG
          clear hv hd2
          have FF := Lib.hid ((H5.out.drewN (n1 + n2)).rb.fill8 A2 key.length c2 side cur next sc ceil sec nano)
          have JJ := Lib.hid (lane_cells FF.out.r)
          unfold fill8 at JJ
          go_wp2_with fail
          obtain ⟨j0, j1, j2, j3, j4, j5, j6, j7⟩ := JJ.out
          exact bodyPost_ret (v := .tuple #[.agg #[.slice A2 key.length c2, .int .i64 side, .int .i64 cur, .int .i64 next, .int .u64 (sc : Int), .int .u64 (ceil : Int), .int .i64 sec, .int .i64 nano], .int .i64 0]) (by simp [results, Try.results43, go_sem, j0, j1, j2, j3, j4, j5, j6, j7]) rfl ⟨A2, c2, rfl, FF.out.bs, FF.out.below⟩
        · have hd2 : decide (v' = v) = false := decide_eq_false hv
          rw [hd2]
          have hG := HG.out
          rw [if_neg (fun h => hv h.2.2)] at hG
          subst hG
          clear hv hd2
          have FF := Lib.hid ((H5.out.drewN (n1 + n2)).rb.fill8 none 0 0 0 0 0 0 0 0 0)
          have JJ := Lib.hid (lane_cells FF.out.r)
          unfold fill8 at JJ
          go_wp2_with fail
          obtain ⟨j0, j1, j2, j3, j4, j5, j6, j7⟩ := JJ.out
          exact bodyPost_ret (v := .tuple #[.agg #[.slice none 0 0, .int .i64 0, .int .i64 0, .int .i64 0, .int .u64 0, .int .u64 0, .int .i64 0, .int .i64 0], .int .i64 114]) (by simp [results, Try.results43, go_sem, j0, j1, j2, j3, j4, j5, j6, j7]) rfl ⟨none, 0, rfl, Bs.nil _ _ _, FF.out.below⟩
      · have hd : decide (k' = k) = false := decide_eq_false hk
        rw [hd]
        have hG := HG.out
        rw [if_neg (fun h => hk h.2.1)] at hG
        subst hG
        clear hk hd
        have FF := Lib.hid ((H5.out.drewN n1).rb.fill8 none 0 0 0 0 0 0 0 0 0)
        have JJ := Lib.hid (lane_cells FF.out.r)
        unfold fill8 at JJ
        go_wp2_with fail
        obtain ⟨j0, j1, j2, j3, j4, j5, j6, j7⟩ := JJ.out
        exact bodyPost_ret (v := .tuple #[.agg #[.slice none 0 0, .int .i64 0, .int .i64 0, .int .i64 0, .int .u64 0, .int .u64 0, .int .i64 0, .int .i64 0], .int .i64 114]) (by simp [results, Try.results43, go_sem, j0, j1, j2, j3, j4, j5, j6, j7]) rfl ⟨none, 0, rfl, Bs.nil _ _ _, FF.out.below⟩
    · have hd : (code != 0) = true := by simpa using hc
      have hG := HG.out
      rw [if_neg (fun h => hc h.1)] at hG
      subst hG
      have FF := Lib.hid (H5.out.rb.fill8 none 0 0 0 0 0 0 0 0 0)
      have JJ := Lib.hid (lane_cells FF.out.r)
      unfold fill8 at JJ
      go_wp2_with fail
      obtain ⟨j0, j1, j2, j3, j4, j5, j6, j7⟩ := JJ.out
      exact bodyPost_ret (v := .tuple #[.agg #[.slice none 0 0, .int .i64 0, .int .i64 0, .int .i64 0, .int .u64 0, .int .u64 0, .int .i64 0, .int .i64 0], .int .i64 114]) (by simp [results, Try.results43, go_sem, j0, j1, j2, j3, j4, j5, j6, j7]) rfl ⟨none, 0, rfl, Bs.nil _ _ _, FF.out.below⟩
end Go.Proofs.Ytgbjhlkjceonpaa.Help
