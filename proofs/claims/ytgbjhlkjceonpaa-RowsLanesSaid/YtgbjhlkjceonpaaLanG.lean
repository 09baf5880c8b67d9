/- The walk of GetLane$1: what the two readers of a row tell of a lane. -/
import Derived.Test.YtgbjhlkjceonpaaLanR2
namespace Go.Proofs.Ytgbjhlkjceonpaa.Help
open Go.RowKit Go.Proofs.Ytgbjhlkjceonpaa.K
set_option linter.unusedVariables false

/-- no cell of block g is a byte -/
def NoU8 (w : World) (g : Nat) : Prop := ∀ (j : Nat) (b : Int), w.cell? ⟨g, j, none⟩ ≠ some (.int .u8 b)
theorem cell_spot {w : World} {ad : Addr} {v : Value} (h : w.cell? ad = some v) : ad = ⟨ad.block, ad.off, none⟩ := by
  obtain ⟨b, o, s⟩ := ad
  cases s with
  | none => rfl
  | some x =>
    exfalso
    simp only [World.cell?] at h
    split at h
    · simp at h
    · cases h
theorem cell_blk {w w' : World} {ad : Addr} (h : w'.heap[ad.block]? = w.heap[ad.block]?) : w'.cell? ad = w.cell? ad := by
  simp only [World.cell?, h]
theorem bs_only {w w' : World} {A : Option Addr} {c : Nat} {l : List UInt8} {T : Nat → Prop} (h : Bs w A c l) (k : Only w w' T) (hT : ∀ i, T i → i < w.heap.size → NoU8 w i) : Bs w' A c l :=
  ⟨h.le, h.max, fun i hi => by
    obtain ⟨ad, e, hlt, hc⟩ := h.at_ i hi
    refine ⟨ad, e, Nat.lt_of_lt_of_le hlt k.size, ?_⟩
    have hb : (ad.add i).block = ad.block := addr_add_block ad i
    refine (cell_blk (k.block _ (by rw [hb]; exact hlt) (fun ht => ?_))).trans hc
    have hs := cell_spot hc
    rw [hs] at hc
    exact hT _ ht (by rw [hb]; exact hlt) _ _ hc⟩
theorem NoU8.of {w : World} {g : Nat} {cs : Array Value} {t : TypeId} {fr : Nat × Nat} (h : w.heap[g]? = some (.cells cs t fr)) (hn : ∀ (j : Nat) (b : Int), cs[j]? ≠ some (.int .u8 b)) : NoU8 w g := by
  intro j b e; rw [blk_cell h] at e; exact hn j b e
theorem noU8_3 (x y z : Value) (hx : ∀ b, x ≠ .int .u8 b) (hy : ∀ b, y ≠ .int .u8 b) (hz : ∀ b, z ≠ .int .u8 b) : ∀ (j : Nat) (b : Int), (#[x, y, z] : Array Value)[j]? ≠ some (.int .u8 b) := by
  intro j b e
  match j with
  | 0 => simp at e; exact hx b e
  | 1 => simp at e; exact hy b e
  | 2 => simp at e; exact hz b e
  | (j + 3) => simp at e
theorem Rdr.noU8 {w : World} {g rb p : Nat} {L : List UInt8} {err : Int} (h : Rdr w g rb L p err) : NoU8 w g :=
  NoU8.of h.b (noU8_3 _ _ _ (by intro b e; cases e) (by intro b e; cases e) (by intro b e; cases e))
/-- a lane's cells -/
def lnC (A : Option Addr) (n c : Nat) (side cur next sc ce se na : Int) : Array Value := #[.slice A n c, .int .i64 side, .int .i64 cur, .int .i64 next, .int .u64 sc, .int .u64 ce, .int .i64 se, .int .i64 na]
theorem lnC_noU8 (A : Option Addr) (n c : Nat) (side cur next sc ce se na : Int) : ∀ (j : Nat) (b : Int), (lnC A n c side cur next sc ce se na)[j]? ≠ some (.int .u8 b) := by
  intro j b e
  unfold lnC at e
  match j with
  | 0 => simp at e
  | 1 => simp at e
  | 2 => simp at e
  | 3 => simp at e
  | 4 => simp at e
  | 5 => simp at e
  | 6 => simp at e
  | 7 => simp at e
  | (j + 8) => simp at e
/-- the memory of GetLane$1: the readers, the answer's box, the lane's box -/
structure GLn (w w' : World) (gk gv rv : Nat) (v : List UInt8) (p : Nat) (er : Int) (A : Option Addr) (c : Nat) (key : List UInt8) (N : Nat) (side cur next sc ce se na : Int) : Prop where
  vr : Rdr w' gv rv v p er
  b : w'.heap[N]? = some (.cells (lnC A key.length c side cur next sc ce se na) 27 (0, 0))
  r : w'.heap[w.heap.size]? = some (.cells (lnC none 0 0 0 0 0 0 0 0 0) 27 (0, 0))
  bs : Bs w' A c key
  only : Only w w' (fun i => i = gk ∨ i = gv)
  hN : w.heap.size < N
  hg : gv < w.heap.size
  hr : rv < w.heap.size
section
variable {w w' w2 : World} {gk gv rv : Nat} {v : List UInt8} {p : Nat} {er : Int} {A : Option Addr} {c : Nat} {key : List UInt8} {N : Nat} {side cur next sc ce se na : Int}
theorem GLn.read {p2 : Nat} {er2 : Int} (h : GLn w w' gk gv rv v p er A c key N side cur next sc ce se na) (hr : Rdr w2 gv rv v p2 er2) (o : Only w' w2 (fun k => k = gv)) : GLn w w2 gk gv rv v p2 er2 A c key N side cur next sc ce se na :=
  ⟨hr, o.blk h.b (by have := h.hN; have := h.hg; omega), o.blk h.r (by have := h.hg; omega), bs_only h.bs o (fun i hi _ => by rw [hi]; exact h.vr.noU8),
    h.only.then_ o (fun i hi => .inl (.inr hi)), h.hN, h.hg, h.hr⟩
theorem GLn.drewN (h : GLn w w' gk gv rv v p er A c key N side cur next sc ce se na) (n : Nat) : GLn w (w'.drewN n) gk gv rv v p er A c key N side cur next sc ce se na :=
  ⟨h.vr.drewN n, h.b, h.r, h.bs.drewN n, h.only.drewN n, h.hN, h.hg, h.hr⟩
theorem GLn.below (h : GLn w w' gk gv rv v p er A c key N side cur next sc ce se na) (hb : Below w'.heap.size w' w2) : GLn w w2 gk gv rv v p er A c key N side cur next sc ce se na :=
  ⟨h.vr.below hb, (hb.block _ (blk_lt h.b)).trans h.b, (hb.block _ (blk_lt h.r)).trans h.r, h.bs.below hb, h.only.then_ (Only.of_below hb (fun _ => False)) (fun i hi => hi.elim), h.hN, h.hg, h.hr⟩
theorem GLn.store (h : GLn w w' gk gv rv v p er A c key N side cur next sc ce se na) (j : Nat) (u : Value) {s1 c1 n1 sc1 ce1 se1 na1 : Int} (e : (lnC A key.length c side cur next sc ce se na).setIfInBounds j u = lnC A key.length c s1 c1 n1 sc1 ce1 se1 na1) :
    GLn w (w'.setCell ⟨N, j, none⟩ u) gk gv rv v p er A c key N s1 c1 n1 sc1 ce1 se1 na1 := by
  have o : Only w' (w'.setCell ⟨N, j, none⟩ u) (fun k => k = N) := (Only.refl w' (fun k => k = N)).setCell (p := ⟨N, j, none⟩) (.inl rfl) u
  have h1 := h.hN
  have h2 := h.hg
  have h3 := h.hr
  refine ⟨h.vr.only o (by omega) (by omega), by rw [← e]; exact blk_set h.b j u, o.blk h.r (by omega), bs_only h.bs o (fun i hi _ => by rw [hi]; exact NoU8.of h.b (lnC_noU8 _ _ _ _ _ _ _ _ _ _)),
    h.only.then_ o (fun i hi => .inr (by omega)), h.hN, h.hg, h.hr⟩
theorem GLn.cell (h : GLn w w' gk gv rv v p er A c key N side cur next sc ce se na) (j : Nat) : w'.cell? ⟨N, j, none⟩ = (lnC A key.length c side cur next sc ce se na)[j]? := blk_cell h.b j
theorem GLn.free (h : GLn w w' gk gv rv v p er A c key N side cur next sc ce se na) (j : Nat) : w'.frozen? ⟨N, j, none⟩ = false := blk_free h.b j
end
/-- a box that is filled cell by cell with no bytes -/
structure RB (w W : World) (T : Nat → Prop) (A : Option Addr) (c : Nat) (key : List UInt8) (R : Nat) (t : TypeId) (cs : Array Value) : Prop where
  r : W.heap[R]? = some (.cells cs t (0, 0))
  nu : ∀ (j : Nat) (b : Int), cs[j]? ≠ some (.int .u8 b)
  bs : Bs W A c key
  only : Only w W T
  hR : w.heap.size ≤ R
theorem RB.set {w W : World} {T : Nat → Prop} {A : Option Addr} {c : Nat} {key : List UInt8} {R : Nat} {t : TypeId} {cs : Array Value} (h : RB w W T A c key R t cs) (j : Nat) (u : Value) (hu : ∀ b, u ≠ .int .u8 b) :
    RB w (W.setCell ⟨R, j, none⟩ u) T A c key R t (cs.setIfInBounds j u) := by
  have o : Only W (W.setCell ⟨R, j, none⟩ u) (fun k => k = R) := (Only.refl W (fun k => k = R)).setCell (p := ⟨R, j, none⟩) (.inl rfl) u
  refine ⟨blk_set h.r j u, ?_, bs_only h.bs o (fun i hi _ => by rw [hi]; exact NoU8.of h.r h.nu), h.only.then_ o (fun i hi => .inr (by rw [hi]; exact h.hR)), h.hR⟩
  intro i b e
  rw [Array.getElem?_setIfInBounds] at e
  split at e
  · split at e
    · injection e with e; exact hu b e
    · cases e
  · exact h.nu i b e
theorem GLn.rb {w w' : World} {gk gv rv : Nat} {v : List UInt8} {p : Nat} {er : Int} {A : Option Addr} {c : Nat} {key : List UInt8} {N : Nat} {side cur next sc ce se na : Int} (h : GLn w w' gk gv rv v p er A c key N side cur next sc ce se na) :
    RB w w' (fun i => i = gk ∨ i = gv) A c key w.heap.size 27 (lnC none 0 0 0 0 0 0 0 0 0) := ⟨h.r, lnC_noU8 _ _ _ _ _ _ _ _ _ _, h.bs, h.only, Nat.le_refl _⟩
/-- the answer's box filled -/
def fill8 (w' : World) (R : Nat) (A : Option Addr) (n c : Nat) (side cur next sc ce se na : Int) : World :=
  (((((((w'.setCell ⟨R, 0, none⟩ (.slice A n c)).setCell ⟨R, 1, none⟩ (.int .i64 side)).setCell ⟨R, 2, none⟩ (.int .i64 cur)).setCell ⟨R, 3, none⟩ (.int .i64 next)).setCell ⟨R, 4, none⟩ (.int .u64 sc)).setCell ⟨R, 5, none⟩ (.int .u64 ce)).setCell ⟨R, 6, none⟩ (.int .i64 se)).setCell ⟨R, 7, none⟩ (.int .i64 na)
theorem RB.put {w W : World} {T : Nat → Prop} {A : Option Addr} {c : Nat} {key : List UInt8} {R : Nat} {t : TypeId} {cs : Array Value} (h : RB w W T A c key R t cs) (j : Nat) (u : Value) (hu : ∀ b, u ≠ .int .u8 b) {cs' : Array Value} (e : cs.setIfInBounds j u = cs') :
    RB w (W.setCell ⟨R, j, none⟩ u) T A c key R t cs' := by rw [← e]; exact h.set j u hu
theorem RB.fill8 {w W : World} {T : Nat → Prop} {A : Option Addr} {c : Nat} {key : List UInt8} {R : Nat} (h : RB w W T A c key R 27 (lnC none 0 0 0 0 0 0 0 0 0)) (B : Option Addr) (n d : Nat) (side cur next sc ce se na : Int) :
    RB w (fill8 W R B n d side cur next sc ce se na) T A c key R 27 (lnC B n d side cur next sc ce se na) := by
  have h0 := h.put 0 (.slice B n d) (by intro b e; cases e) (cs' := lnC B n d 0 0 0 0 0 0 0) rfl
  have h1 := h0.put 1 (.int .i64 side) (by intro b e; cases e) (cs' := lnC B n d side 0 0 0 0 0 0) rfl
  have h2 := h1.put 2 (.int .i64 cur) (by intro b e; cases e) (cs' := lnC B n d side cur 0 0 0 0 0) rfl
  have h3 := h2.put 3 (.int .i64 next) (by intro b e; cases e) (cs' := lnC B n d side cur next 0 0 0 0) rfl
  have h4 := h3.put 4 (.int .u64 sc) (by intro b e; cases e) (cs' := lnC B n d side cur next sc 0 0 0) rfl
  have h5 := h4.put 5 (.int .u64 ce) (by intro b e; cases e) (cs' := lnC B n d side cur next sc ce 0 0) rfl
  have h6 := h5.put 6 (.int .i64 se) (by intro b e; cases e) (cs' := lnC B n d side cur next sc ce se 0) rfl
  have h7 := h6.put 7 (.int .i64 na) (by intro b e; cases e) (cs' := lnC B n d side cur next sc ce se na) rfl
  exact h7
theorem RB.c {w W : World} {T : Nat → Prop} {A : Option Addr} {c : Nat} {key : List UInt8} {R : Nat} {t : TypeId} {cs : Array Value} (h : RB w W T A c key R t cs) (j : Nat) : W.cell? ⟨R, j, none⟩ = cs[j]? := blk_cell h.r j
/-- what the readers tell -/
def laneRd (k v : List UInt8) : LaneD :=
  let t0 := takes k 0 1 0
  let tk := takes k t0.2.2.1 (Left k t0.2.2.1 t0.2.2.2) t0.2.2.2
  let t1 := takes v 0 1 0
  let t2 := takes v t1.2.2.1 4 t1.2.2.2
  let t3 := takes v t2.2.2.1 4 t2.2.2.2
  let t4 := takes v t3.2.2.1 8 t3.2.2.2
  let t5 := takes v t4.2.2.1 8 t4.2.2.2
  let t6 := takes v t5.2.2.1 (Left v t5.2.2.1 t5.2.2.2) t5.2.2.2
  let s := stGet t6.1
  ⟨tk.1, val t1.1, val t2.1, val t3.1, val t4.1, val t5.1, s.1, s.2.1⟩
def LaneR (w : World) (gk gv : Nat) (d : LaneD) (e : Ending) (w' : World) : Prop := ∃ A c, e = .returned (laneV A c d) ∧ Bs w' A c d.key ∧ Only w w' (fun i => i = gk ∨ i = gv)
theorem Left_le (L : List UInt8) (p : Nat) (err : Int) : Left L p err ≤ L.length := by unfold Left; split <;> omega

set_option maxRecDepth 100000 in
set_option maxHeartbeats 1000000 in
theorem getLane1 (gk rk gv rv : Nat) (k v : List UInt8) (w : World) (hk : Rdr w gk rk k 0 0) (hv : Rdr w gv rv v 0 0) (n1 : gk ≠ gv) (n2 : gk ≠ rv) (n3 : gv ≠ rk) :
    Calls Try.prog 44 #[.pointer (some ⟨gk, 0, none⟩), .pointer (some ⟨gv, 0, none⟩)] w (LaneR w gk gv (laneRd k v)) := by
  have hkm := hk.max
  have hvm := hv.max
  have K0 := Lib.hid (hk.below (below_alloc (Below.refl _ _) (.cells (lnC none 0 0 0 0 0 0 0 0 0) 27)))
  have V0 := Lib.hid (hv.below (below_alloc (Below.refl _ _) (.cells (lnC none 0 0 0 0 0 0 0 0 0) 27)))
  have O0 := Lib.hid ((Only.refl w (fun i => i = gk ∨ i = gv)).alloc (.cells (lnC none 0 0 0 0 0 0 0 0 0) 27))
  have GV := Lib.hid (And.intro (blk_lt hv.b) (And.intro (blk_lt hv.r) (blk_lt hk.b)))
  have NE := Lib.hid (And.intro n1 (And.intro n2 n3))
  clear hk hv n1 n2 n3
  generalize hd : laneRd k v = d
  have HD := Lib.hid hd
  clear hd
  unfold laneRd at HD
  generalize hT0 : takes k 0 1 0 = t0 at *
  obtain ⟨l0, ok0, p0, er0⟩ := t0
  dsimp only at HD
  have C1 := Lib.hid (fun w h => left gk rk p0 k er0 w h)
  generalize hTk : takes k p0 (Left k p0 er0) er0 = tk at *
  obtain ⟨lk, okk, pk, erk⟩ := tk
  generalize hT1 : takes v 0 1 0 = t1 at *
  obtain ⟨l1, ok1, p1, er1⟩ := t1
  dsimp only at HD
  generalize hT2 : takes v p1 4 er1 = t2 at *
  obtain ⟨l2, ok2, p2, er2⟩ := t2
  dsimp only at HD
  generalize hT3 : takes v p2 4 er2 = t3 at *
  obtain ⟨l3, ok3, p3, er3⟩ := t3
  dsimp only at HD
  generalize hT4 : takes v p3 8 er3 = t4 at *
  obtain ⟨l4, ok4, p4, er4⟩ := t4
  dsimp only at HD
  generalize hT5 : takes v p4 8 er4 = t5 at *
  obtain ⟨l5, ok5, p5, er5⟩ := t5
  dsimp only at HD
  generalize hT6 : takes v p5 (Left v p5 er5) er5 = t6 at *
  obtain ⟨l6, ok6, p6, er6⟩ := t6
  dsimp only at HD
  have T0 := Lib.hid hT0
  have TK := Lib.hid hTk
  have T1 := Lib.hid hT1
  have T2 := Lib.hid hT2
  have T3 := Lib.hid hT3
  have T4 := Lib.hid hT4
  have T5 := Lib.hid hT5
  have T6 := Lib.hid hT6
  have B1 : val l1 < 256 := val_pow (k := 1) (by have := (takes_len v 0 1 0).1; rwa [hT1] at this)
  have B2 : val l2 < 4294967296 := Nat.lt_of_lt_of_le (val_pow (k := 4) (by have := (takes_len v p1 4 er1).1; rwa [hT2] at this)) (by decide)
  have B3 : val l3 < 4294967296 := Nat.lt_of_lt_of_le (val_pow (k := 4) (by have := (takes_len v p2 4 er2).1; rwa [hT3] at this)) (by decide)
  have hl1 := Left_le k p0 er0
  have hl2 := Left_le v p5 er5
  clear hT0 hTk hT1 hT2 hT3 hT4 hT5 hT6
  have C0 := Lib.hid (rbytes gk rk 0 1 1 k 0 _ K0.out (by rfl) (by omega))
  rw [T0.out] at C0
  have C2 : Hid (∀ w, Rdr w gk rk k p0 er0 → Calls Try.prog 45 #[.pointer (some ⟨gk, 0, none⟩), .int .i64 (Left k p0 er0 : Int)] w (BytesR w gk rk k (lk, okk, pk, erk))) := by
    intro w h
    have := rbytes gk rk p0 (Left k p0 er0) _ k er0 w h rfl (by omega)
    rwa [TK.out] at this
  have G1 : Hid (∀ w, Rdr w gv rv v 0 0 → Calls Try.prog 47 #[.pointer (some ⟨gv, 0, none⟩)] w (GetR w gv rv v .u8 (l1, ok1, p1, er1))) := by
    intro w h; have := get_uint8 gv rv 0 v 0 w h; rwa [T1.out] at this
  have G2 : Hid (∀ w, Rdr w gv rv v p1 er1 → Calls Try.prog 48 #[.pointer (some ⟨gv, 0, none⟩)] w (GetR w gv rv v .u32 (l2, ok2, p2, er2))) := by
    intro w h; have := get_uint32 gv rv p1 v er1 w h; rwa [T2.out] at this
  have G3 : Hid (∀ w, Rdr w gv rv v p2 er2 → Calls Try.prog 48 #[.pointer (some ⟨gv, 0, none⟩)] w (GetR w gv rv v .u32 (l3, ok3, p3, er3))) := by
    intro w h; have := get_uint32 gv rv p2 v er2 w h; rwa [T3.out] at this
  have G4 : Hid (∀ w, Rdr w gv rv v p3 er3 → Calls Try.prog 49 #[.pointer (some ⟨gv, 0, none⟩)] w (GetR w gv rv v .u64 (l4, ok4, p4, er4))) := by
    intro w h; have := get_uint64 gv rv p3 v er3 w h; rwa [T4.out] at this
  have G5 : Hid (∀ w, Rdr w gv rv v p4 er4 → Calls Try.prog 49 #[.pointer (some ⟨gv, 0, none⟩)] w (GetR w gv rv v .u64 (l5, ok5, p5, er5))) := by
    intro w h; have := get_uint64 gv rv p4 v er4 w h; rwa [T5.out] at this
  have C6 : Hid (∀ w, Rdr w gv rv v p5 er5 → Calls Try.prog 45 #[.pointer (some ⟨gv, 0, none⟩), .int .i64 (Left v p5 er5 : Int)] w (BytesR w gv rv v (l6, ok6, p6, er6))) := by
    intro w h
    have := rbytes gv rv p5 (Left v p5 er5) _ v er5 w h rfl (by omega)
    rwa [T6.out] at this
  have C5 := Lib.hid (fun w h => left gv rv p5 v er5 w h)
  unfold GetR at G1 G2 G3 G4 G5
  dsimp only at G1 G2 G3 G4 G5
  generalize val l1 = x1 at *
  generalize val l2 = x2 at *
  generalize val l3 = x3 at *
  generalize val l4 = x4 at *
  generalize val l5 = x5 at *
  generalize Left k p0 er0 = lf0 at *
  generalize Left v p5 er5 = lf5 at *
  go_enter Try.func44, Try.ntmps44
  go_wp2_with fail
  refine C0.out.mono ?_
  rintro e w1 ⟨A0, c0, rfl, _, kr, o1⟩
  dsimp only at kr
  have V1 := Lib.hid (V0.out.only o1 NE.out.1.symm NE.out.2.1.symm)
  have O1 := Lib.hid (O0.out.then_ o1 (fun i hi => .inl (.inl hi)))
  have R1 : Hid (w1.heap[w.heap.size]? = some (.cells (lnC none 0 0 0 0 0 0 0 0 0) 27 (0, 0))) := o1.blk (blk_new _ _) (by have := GV.out; omega)
  have K1 := Lib.hid kr
  clear kr o1
  go_wp2_with fail
  refine (C1.out _ K1.out).mono ?_
  rintro e w2 ⟨q1, rfl, rfl⟩
  go_wp2_with fail
  refine (C2.out _ (K1.out.drewN q1)).mono ?_
  rintro e w2 ⟨A, c, rfl, bs, kr, o2⟩
  dsimp only at kr bs o2
  have V2 := Lib.hid ((V1.out.drewN q1).only o2 NE.out.1.symm NE.out.2.1.symm)
  have O2 := Lib.hid ((O1.out.drewN q1).then_ o2 (fun i hi => .inl (.inl hi)))
  have R2 : Hid (w2.heap[w.heap.size]? = some (.cells (lnC none 0 0 0 0 0 0 0 0 0) 27 (0, 0))) := o2.blk (blk_drewN q1 R1.out) (by have := GV.out; omega)
  have S2 := Lib.hid bs
  clear kr bs o2
  go_wp2_with fail
  have X : GLn w (w2.alloc (.cells (lnC A lk.length c 0 0 0 0 0 0 0) 27)) gk gv rv v 0 0 A c lk w2.heap.size 0 0 0 0 0 0 0 :=
    ⟨V2.out.below (below_alloc (Below.refl _ _) _), blk_new _ _, blk_alloc R2.out _, S2.out.below (below_alloc (Below.refl _ _) _), O2.out.alloc _, blk_lt R2.out, GV.out.1, GV.out.2.1⟩
  have X0 := Lib.hid X
  clear X
  refine (G1.out _ X0.out.vr).mono ?_
  rintro e u1 ⟨rfl, vr, o⟩
  have X := X0.out.read vr o
  have cc : u1.cell? ⟨w2.heap.size, 1, none⟩ = some (.int .i64 0) := X.cell 1
  have ff := X.free 1
  have X1 := Lib.hid (X.store 1 (.int .i64 (x1 : Int)) rfl)
  clear X vr o
  go_wp2_with fail
  clear cc ff
  refine (G2.out _ X1.out.vr).mono ?_
  rintro e u2 ⟨rfl, vr, o⟩
  have X := X1.out.read vr o
  have cc : u2.cell? ⟨w2.heap.size, 2, none⟩ = some (.int .i64 0) := X.cell 2
  have ff := X.free 2
  have X2 := Lib.hid (X.store 2 (.int .i64 (x2 : Int)) rfl)
  clear X vr o
  go_wp2_with fail
  clear cc ff
  refine (G3.out _ X2.out.vr).mono ?_
  rintro e u3 ⟨rfl, vr, o⟩
  have X := X2.out.read vr o
  have cc : u3.cell? ⟨w2.heap.size, 3, none⟩ = some (.int .i64 0) := X.cell 3
  have ff := X.free 3
  have X3 := Lib.hid (X.store 3 (.int .i64 (x3 : Int)) rfl)
  clear X vr o
  go_wp2_with fail
  clear cc ff
  refine (G4.out _ X3.out.vr).mono ?_
  rintro e u4 ⟨rfl, vr, o⟩
  have X := X3.out.read vr o
  have cc : u4.cell? ⟨w2.heap.size, 4, none⟩ = some (.int .u64 0) := X.cell 4
  have ff := X.free 4
  have X4 := Lib.hid (X.store 4 (.int .u64 (x4 : Int)) rfl)
  clear X vr o
  go_wp2_with fail
  clear cc ff
  refine (G5.out _ X4.out.vr).mono ?_
  rintro e u5 ⟨rfl, vr, o⟩
  have X := X4.out.read vr o
  have cc : u5.cell? ⟨w2.heap.size, 5, none⟩ = some (.int .u64 0) := X.cell 5
  have ff := X.free 5
  have X5 := Lib.hid (X.store 5 (.int .u64 (x5 : Int)) rfl)
  clear X vr o
  go_wp2_with fail
  clear cc ff
  refine (C5.out _ X5.out.vr).mono ?_
  rintro e u6 ⟨q6, rfl, rfl⟩
  go_wp2_with fail
  refine (C6.out _ (X5.out.vr.drewN q6)).mono ?_
  rintro e u6 ⟨A6, c6, rfl, bs, vr, o⟩
  have X6 := Lib.hid ((X5.out.drewN q6).read vr o)
  have B6 := Lib.hid bs
  clear bs vr o
  dsimp only at B6 ⊢
  generalize hst : stGet l6 = st at *
  have ST : Hid (∀ w c A, Bs w A c l6 → Calls Try.prog 50 #[.slice A l6.length c] w (Pure w (stVal st))) := by
    intro w c A h; rw [← hst]; exact stampGet A c l6 w h
  clear hst
  obtain ⟨s1, s2, s3⟩ := st
  dsimp only at HD
  unfold stVal at ST
  go_wp2_with fail
  refine (ST.out _ c6 A6 B6.out).mono ?_
  rintro e u7 ⟨rfl, hb⟩
  have X := X6.out.below hb
  have cc : u7.cell? ⟨w2.heap.size, 6, none⟩ = some (.int .i64 0) := X.cell 6
  have cc2 : u7.cell? ⟨w2.heap.size, 7, none⟩ = some (.int .i64 0) := X.cell 7
  have ff := X.free 6
  have ff2 := X.free 7
  have Y := (X.store 6 (.int .i64 s1) (se1 := s1) rfl).store 7 (.int .i64 s2) (na1 := s2) rfl
  have e0 : ((u7.setCell ⟨w2.heap.size, 6, none⟩ (.int .i64 s1)).setCell ⟨w2.heap.size, 7, none⟩ (.int .i64 s2)).cell? ⟨w2.heap.size, 0, none⟩ = some (.slice A lk.length c) := Y.cell 0
  have e1 : ((u7.setCell ⟨w2.heap.size, 6, none⟩ (.int .i64 s1)).setCell ⟨w2.heap.size, 7, none⟩ (.int .i64 s2)).cell? ⟨w2.heap.size, 1, none⟩ = some (.int .i64 x1) := Y.cell 1
  have e2 : ((u7.setCell ⟨w2.heap.size, 6, none⟩ (.int .i64 s1)).setCell ⟨w2.heap.size, 7, none⟩ (.int .i64 s2)).cell? ⟨w2.heap.size, 2, none⟩ = some (.int .i64 x2) := Y.cell 2
  have e3 : ((u7.setCell ⟨w2.heap.size, 6, none⟩ (.int .i64 s1)).setCell ⟨w2.heap.size, 7, none⟩ (.int .i64 s2)).cell? ⟨w2.heap.size, 3, none⟩ = some (.int .i64 x3) := Y.cell 3
  have e4 : ((u7.setCell ⟨w2.heap.size, 6, none⟩ (.int .i64 s1)).setCell ⟨w2.heap.size, 7, none⟩ (.int .i64 s2)).cell? ⟨w2.heap.size, 4, none⟩ = some (.int .u64 x4) := Y.cell 4
  have e5 : ((u7.setCell ⟨w2.heap.size, 6, none⟩ (.int .i64 s1)).setCell ⟨w2.heap.size, 7, none⟩ (.int .i64 s2)).cell? ⟨w2.heap.size, 5, none⟩ = some (.int .u64 x5) := Y.cell 5
  have e6 : ((u7.setCell ⟨w2.heap.size, 6, none⟩ (.int .i64 s1)).setCell ⟨w2.heap.size, 7, none⟩ (.int .i64 s2)).cell? ⟨w2.heap.size, 6, none⟩ = some (.int .i64 s1) := Y.cell 6
  have e7 : ((u7.setCell ⟨w2.heap.size, 6, none⟩ (.int .i64 s1)).setCell ⟨w2.heap.size, 7, none⟩ (.int .i64 s2)).cell? ⟨w2.heap.size, 7, none⟩ = some (.int .i64 s2) := Y.cell 7
  have b0 : ((u7.setCell ⟨w2.heap.size, 6, none⟩ (.int .i64 s1)).setCell ⟨w2.heap.size, 7, none⟩ (.int .i64 s2)).cell? ⟨w.heap.size, 0, none⟩ = some (.slice none 0 0) := blk_cell Y.r 0
  have z0 := blk_free Y.r 0
  have b1 : ((u7.setCell ⟨w2.heap.size, 6, none⟩ (.int .i64 s1)).setCell ⟨w2.heap.size, 7, none⟩ (.int .i64 s2)).cell? ⟨w.heap.size, 1, none⟩ = some (.int .i64 0) := blk_cell Y.r 1
  have z1 := blk_free Y.r 1
  have b2 : ((u7.setCell ⟨w2.heap.size, 6, none⟩ (.int .i64 s1)).setCell ⟨w2.heap.size, 7, none⟩ (.int .i64 s2)).cell? ⟨w.heap.size, 2, none⟩ = some (.int .i64 0) := blk_cell Y.r 2
  have z2 := blk_free Y.r 2
  have b3 : ((u7.setCell ⟨w2.heap.size, 6, none⟩ (.int .i64 s1)).setCell ⟨w2.heap.size, 7, none⟩ (.int .i64 s2)).cell? ⟨w.heap.size, 3, none⟩ = some (.int .i64 0) := blk_cell Y.r 3
  have z3 := blk_free Y.r 3
  have b4 : ((u7.setCell ⟨w2.heap.size, 6, none⟩ (.int .i64 s1)).setCell ⟨w2.heap.size, 7, none⟩ (.int .i64 s2)).cell? ⟨w.heap.size, 4, none⟩ = some (.int .u64 0) := blk_cell Y.r 4
  have z4 := blk_free Y.r 4
  have b5 : ((u7.setCell ⟨w2.heap.size, 6, none⟩ (.int .i64 s1)).setCell ⟨w2.heap.size, 7, none⟩ (.int .i64 s2)).cell? ⟨w.heap.size, 5, none⟩ = some (.int .u64 0) := blk_cell Y.r 5
  have z5 := blk_free Y.r 5
  have b6 : ((u7.setCell ⟨w2.heap.size, 6, none⟩ (.int .i64 s1)).setCell ⟨w2.heap.size, 7, none⟩ (.int .i64 s2)).cell? ⟨w.heap.size, 6, none⟩ = some (.int .i64 0) := blk_cell Y.r 6
  have z6 := blk_free Y.r 6
  have b7 : ((u7.setCell ⟨w2.heap.size, 6, none⟩ (.int .i64 s1)).setCell ⟨w2.heap.size, 7, none⟩ (.int .i64 s2)).cell? ⟨w.heap.size, 7, none⟩ = some (.int .i64 0) := blk_cell Y.r 7
  have z7 := blk_free Y.r 7
  have F := Y.rb.fill8 A lk.length c x1 x2 x3 x4 x5 s1 s2
  have j0 := Lib.hid ((F.c 0).trans (b := some (Value.slice A lk.length c)) rfl)
  have j1 := Lib.hid ((F.c 1).trans (b := some (Value.int .i64 x1)) rfl)
  have j2 := Lib.hid ((F.c 2).trans (b := some (Value.int .i64 x2)) rfl)
  have j3 := Lib.hid ((F.c 3).trans (b := some (Value.int .i64 x3)) rfl)
  have j4 := Lib.hid ((F.c 4).trans (b := some (Value.int .u64 x4)) rfl)
  have j5 := Lib.hid ((F.c 5).trans (b := some (Value.int .u64 x5)) rfl)
  have j6 := Lib.hid ((F.c 6).trans (b := some (Value.int .i64 s1)) rfl)
  have j7 := Lib.hid ((F.c 7).trans (b := some (Value.int .i64 s2)) rfl)
  have FF := Lib.hid F
  clear F
  have X7 := Lib.hid X
  have X8 := Lib.hid Y
  clear X Y hb
  go_wp2_with fail
  have hD := HD.out
  subst hD
  unfold fill8 at j0 j1 j2 j3 j4 j5 j6 j7
  exact bodyPost_ret (v := .agg #[.slice A lk.length c, .int .i64 x1, .int .i64 x2, .int .i64 x3, .int .u64 x4, .int .u64 x5, .int .i64 s1, .int .i64 s2]) (by simp [results, Try.results44, go_sem, j0.out, j1.out, j2.out, j3.out, j4.out, j5.out, j6.out, j7.out]) rfl ⟨A, c, rfl, FF.out.bs, FF.out.only⟩
end Go.Proofs.Ytgbjhlkjceonpaa.Help
