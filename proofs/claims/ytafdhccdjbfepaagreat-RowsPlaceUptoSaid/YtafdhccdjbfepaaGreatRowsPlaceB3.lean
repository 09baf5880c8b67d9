/- Contracts of the functions that RowsPlace reaches: part 3 of 7. -/
import Derived.Test.YtafdhccdjbfepaaGreatRowsPlaceB2
import Derived.Test.YtafdhccdjbfepaaGreatRows
import Derived.ChangeSlices
import Derived.ChangeSame
import Derived.Carry
import Derived.SizedLaws
import Derived.OpenShut
import Derived.Deep.Slices
import Derived.Deep.Fields
import Derived.Lib.SmallJoins
import Derived.Deep.DeepCutAuto
/- The walk of Get of a prefix. -/
namespace Go.Proofs.YtafdhccdjbfepaaGreat.Pfx
open Go.RowKit Go.Proofs.YtafdhccdjbfepaaGreat.K Go.Proofs.YtafdhccdjbfepaaGreat.Help
set_option linter.unusedVariables false

/-- what the reader reads -/
def pfxRd (L : List UInt8) : PfxD × Nat × Int :=
  if val (takes L 0 1 0).1 = 4 then
    ((4, 0, val (takes L (takes L (takes L 0 1 0).2.2.1 1 (takes L 0 1 0).2.2.2).2.2.1 4 (takes L (takes L 0 1 0).2.2.1 1 (takes L 0 1 0).2.2.2).2.2.2).1, val (takes L (takes L 0 1 0).2.2.1 1 (takes L 0 1 0).2.2.2).1),
     (takes L (takes L (takes L 0 1 0).2.2.1 1 (takes L 0 1 0).2.2.2).2.2.1 4 (takes L (takes L 0 1 0).2.2.1 1 (takes L 0 1 0).2.2.2).2.2.2).2.2)
  else
    (((val (takes L 0 1 0).1 : Int), val (takes L (takes L (takes L 0 1 0).2.2.1 1 (takes L 0 1 0).2.2.2).2.2.1 8 (takes L (takes L 0 1 0).2.2.1 1 (takes L 0 1 0).2.2.2).2.2.2).1,
      val (takes L (takes L (takes L (takes L 0 1 0).2.2.1 1 (takes L 0 1 0).2.2.2).2.2.1 8 (takes L (takes L 0 1 0).2.2.1 1 (takes L 0 1 0).2.2.2).2.2.2).2.2.1 8 (takes L (takes L (takes L 0 1 0).2.2.1 1 (takes L 0 1 0).2.2.2).2.2.1 8 (takes L (takes L 0 1 0).2.2.1 1 (takes L 0 1 0).2.2.2).2.2.2).2.2.2).1,
      val (takes L (takes L 0 1 0).2.2.1 1 (takes L 0 1 0).2.2.2).1),
     (takes L (takes L (takes L (takes L 0 1 0).2.2.1 1 (takes L 0 1 0).2.2.2).2.2.1 8 (takes L (takes L 0 1 0).2.2.1 1 (takes L 0 1 0).2.2.2).2.2.2).2.2.1 8 (takes L (takes L (takes L 0 1 0).2.2.1 1 (takes L 0 1 0).2.2.2).2.2.1 8 (takes L (takes L 0 1 0).2.2.1 1 (takes L 0 1 0).2.2.2).2.2.2).2.2.2).2.2)
def pfxFin (r : PfxD × Nat × Int) : PfxD × Nat × Int :=
  if r.2.2 ≠ 0 ∨ pvB r.1.1 r.1.2.1 r.1.2.2.1 (r.1.2.2.2 : Int) = false then ((0, 0, 0, 0), 0, 70) else (r.1, r.2.1, 0)
/-- the answer's box, the reader, the prefix's box -/
structure PGx (w W : World) (g rb : Nat) (L : List UInt8) (p : Nat) (er : Int) (X : Nat) (fam : Int) (hi lo : Nat) (bits : Int) : Prop where
  h : PfR w W
  rd : Rdr W g rb L p er
  lt : w.heap.size < g
  ltb : w.heap.size < rb
  bx : W.heap[X]? = some (.cells (pfC fam hi lo bits) 110 (0, 0))
  hX : w.heap.size < X
section
variable {w W W2 : World} {g rb : Nat} {L : List UInt8} {p : Nat} {er : Int} {X : Nat} {fam : Int} {hi lo : Nat} {bits : Int}
theorem PGx.ne (h : PGx w W g rb L p er X fam hi lo bits) : X ≠ g := blk_ne h.bx h.rd.b (by decide)
theorem PGx.neb (h : PGx w W g rb L p er X fam hi lo bits) : X ≠ rb := blk_ne h.bx h.rd.r (by decide)
theorem PGx.read {p2 : Nat} {er2 : Int} (h : PGx w W g rb L p er X fam hi lo bits) (hr : Rdr W2 g rb L p2 er2) (o : Only W W2 (fun k => k = g)) : PGx w W2 g rb L p2 er2 X fam hi lo bits :=
  ⟨⟨o.blk h.h.r (by have := h.lt; omega), below_only h.h.below o (fun i hi => by have := h.lt; omega)⟩, hr, h.lt, h.ltb, o.blk h.bx h.ne, h.hX⟩
theorem PGx.step (h : PGx w W g rb L p er X fam hi lo bits) (hb : Below W.heap.size W W2) : PGx w W2 g rb L p er X fam hi lo bits :=
  ⟨h.h.step hb, h.rd.below hb, h.lt, h.ltb, (hb.block _ (blk_lt h.bx)).trans h.bx, h.hX⟩
theorem PGx.drewN (h : PGx w W g rb L p er X fam hi lo bits) (n : Nat) : PGx w (W.drewN n) g rb L p er X fam hi lo bits := ⟨h.h.drewN n, h.rd.drewN n, h.lt, h.ltb, h.bx, h.hX⟩
theorem PGx.store {f2 b2 : Int} {h2 l2 : Nat} (h : PGx w W g rb L p er X fam hi lo bits) (j : Nat) (u : Value) (e : (pfC fam hi lo bits).setIfInBounds j u = pfC f2 h2 l2 b2) : PGx w (W.setCell ⟨X, j, none⟩ u) g rb L p er X f2 h2 l2 b2 := by
  have o : Only W (W.setCell ⟨X, j, none⟩ u) (fun k => k = X) := (Only.refl W (fun k => k = X)).setCell (p := ⟨X, j, none⟩) (.inl rfl) u
  exact ⟨⟨o.blk h.h.r (by have := h.hX; omega), below_only h.h.below o (fun i hi => by have := h.hX; omega)⟩, h.rd.only o h.ne.symm h.neb.symm, h.lt, h.ltb, by rw [← e]; exact blk_set h.bx j u, h.hX⟩
end
/-- the answer's box and the reader -/
structure PGr (w W : World) (g rb : Nat) (L : List UInt8) (p : Nat) (er : Int) : Prop where
  h : PfR w W
  rd : Rdr W g rb L p er
  lt : w.heap.size < g
  ltb : w.heap.size < rb
section
variable {w W W2 : World} {g rb : Nat} {L : List UInt8} {p : Nat} {er : Int}
theorem PGr.read {p2 : Nat} {er2 : Int} (h : PGr w W g rb L p er) (hr : Rdr W2 g rb L p2 er2) (o : Only W W2 (fun k => k = g)) : PGr w W2 g rb L p2 er2 :=
  ⟨⟨o.blk h.h.r (by have := h.lt; omega), below_only h.h.below o (fun i hi => by have := h.lt; omega)⟩, hr, h.lt, h.ltb⟩
theorem PGr.box (h : PGr w W g rb L p er) (fam : Int) (hi lo : Nat) (bits : Int) : PGx w (W.alloc (.cells (pfC fam hi lo bits) 110)) g rb L p er W.heap.size fam hi lo bits :=
  ⟨h.h.step (below_alloc (Below.refl _ _) _), h.rd.below (below_alloc (Below.refl _ _) _), h.lt, h.ltb, blk_new _ _, h.h.lt⟩
theorem PGr.of (hW : PfR w W) {e : Ending} (hn : NewR W L e W2) : ∃ g rb, e = .returned (.pointer (some ⟨g, 0, none⟩)) ∧ PGr w W2 g rb L 0 0 := by
  obtain ⟨g, rb, rfl, h1, h2, h3, h4⟩ := hn
  have := hW.lt
  exact ⟨g, rb, rfl, hW.step h2, h1, by omega, by omega⟩
end
theorem PfR.fin4 {w w' : World} (h : PfR w w') (lo : Nat) (bits : Int) :
    Hid ((w'.setCell ⟨w.heap.size, 0, none⟩ (.int .i64 4)).cell? ⟨w.heap.size, 0, none⟩ = some (.int .i64 4)
     ∧ ((w'.setCell ⟨w.heap.size, 0, none⟩ (.int .i64 4)).setCell ⟨w.heap.size, 1, none⟩ (.int .u64 0)).cell? ⟨w.heap.size, 1, none⟩ = some (.int .u64 0)
     ∧ (((w'.setCell ⟨w.heap.size, 0, none⟩ (.int .i64 4)).setCell ⟨w.heap.size, 1, none⟩ (.int .u64 0)).setCell ⟨w.heap.size, 2, none⟩ (.int .u64 (lo : Int))).cell? ⟨w.heap.size, 2, none⟩ = some (.int .u64 (lo : Int))
     ∧ ((((w'.setCell ⟨w.heap.size, 0, none⟩ (.int .i64 4)).setCell ⟨w.heap.size, 1, none⟩ (.int .u64 0)).setCell ⟨w.heap.size, 2, none⟩ (.int .u64 (lo : Int))).setCell ⟨w.heap.size, 3, none⟩ (.int .i64 bits)).cell? ⟨w.heap.size, 3, none⟩ = some (.int .i64 bits)
     ∧ Below w.heap.size w ((((w'.setCell ⟨w.heap.size, 0, none⟩ (.int .i64 4)).setCell ⟨w.heap.size, 1, none⟩ (.int .u64 0)).setCell ⟨w.heap.size, 2, none⟩ (.int .u64 (lo : Int))).setCell ⟨w.heap.size, 3, none⟩ (.int .i64 bits))) := h.fin 4 0 lo bits
set_option maxRecDepth 100000 in
set_option maxHeartbeats 1000000 in
theorem getP_rdS (A : Option Addr) (c : Nat) (l : List UInt8) (w : World) (ha : Bs w A c l) (h18 : l.length ≤ 18) :
    Calls Tryz.prog 85 #[.slice A l.length c] w (Pure w (pgV (pfxFin (pfxRd (l.take 18))))) := by
  have hb0 := bs_take ha 18
  have H0 := Lib.hid (PfR.start w)
  have h18i : (l.length : Int) ≤ 18 := by omega
  have hL0 : (0 : Int) ≤ (l.length : Int) := by omega
  have hci : (l.length : Int) ≤ (c : Int) := by have := ha.le; omega
  have BD := Lib.hid hb0
  have N := Lib.hid (fun W h => newReader A c (l.take 18) W h)
  rw [List.length_take, Nat.min_eq_right h18] at N
  clear hb0 ha
  generalize l.take 18 = L at *
  generalize l.length = n at *
  generalize hr : pfxFin (pfxRd L) = r
  have HR := Lib.hid hr
  clear hr
  unfold pfxRd at HR
  generalize hT1 : takes L 0 1 0 = t1 at *
  obtain ⟨l1, ok1, p1, er1⟩ := t1
  dsimp only at HR
  generalize hT2 : takes L p1 1 er1 = t2 at *
  obtain ⟨l2, ok2, p2, er2⟩ := t2
  dsimp only at HR
  have T1 := Lib.hid hT1
  have T2 := Lib.hid hT2
  have B1 : val l1 < 256 := val_pow (k := 1) (by have := (takes_len L 0 1 0).1; rwa [hT1] at this)
  have B2 : val l2 < 256 := val_pow (k := 1) (by have := (takes_len L p1 1 er1).1; rwa [hT2] at this)
  clear hT1 hT2
  have G1 : Hid (∀ g rb w, Rdr w g rb L 0 0 → Calls Tryz.prog 42 #[.pointer (some ⟨g, 0, none⟩)] w (GetR w g rb L .u8 (l1, ok1, p1, er1))) := by
    intro g rb w h; have := get_uint8 g rb 0 L 0 w h; rwa [T1.out] at this
  have G2 : Hid (∀ g rb w, Rdr w g rb L p1 er1 → Calls Tryz.prog 42 #[.pointer (some ⟨g, 0, none⟩)] w (GetR w g rb L .u8 (l2, ok2, p2, er2))) := by
    intro g rb w h; have := get_uint8 g rb p1 L er1 w h; rwa [T2.out] at this
  unfold GetR at G1 G2
  dsimp only at G1 G2
  generalize val l1 = x1 at *
  generalize val l2 = x2 at *
  have hw1 : IntKind.i64.wrap (x1 : Int) = x1 := IntWalk.i64_in _ (by omega)
  have hw2 : IntKind.i64.wrap (x2 : Int) = x2 := IntWalk.i64_in _ (by omega)
  go_enter Tryz.func85, Tryz.ntmps85
  go_wp2_with fail
  refine (N.out _ (BD.out.below H0.out.below)).mono ?_
  intro e w1 hn
  obtain ⟨g, rb, rfl, q1⟩ := PGr.of H0.out hn
  have Q1 := Lib.hid q1
  clear hn q1
  go_wp2_with fail
  refine (G1.out _ _ _ Q1.out.rd).mono ?_
  rintro e w2 ⟨rfl, hr1, ho1⟩
  have Q2 := Lib.hid (Q1.out.read hr1 ho1)
  clear hr1 ho1
  go_wp2_with fail
  refine (G2.out _ _ _ Q2.out.rd).mono ?_
  rintro e w3 ⟨rfl, hr1, ho1⟩
  have Q3 := Lib.hid (Q2.out.read hr1 ho1)
  clear hr1 ho1
  by_cases h4 : x1 = 4
  · subst h4
    rw [if_pos rfl] at HR
    generalize hT3 : takes L p2 4 er2 = t3 at *
    obtain ⟨l3, ok3, p3, er3⟩ := t3
    dsimp only at HR
    have T3 := Lib.hid hT3
    have B3 : val l3 < 4294967296 := Nat.lt_of_lt_of_le (val_pow (k := 4) (by have := (takes_len L p2 4 er2).1; rwa [hT3] at this)) (by decide)
    clear hT3
    have G3 : Hid (∀ g rb w, Rdr w g rb L p2 er2 → Calls Tryz.prog 43 #[.pointer (some ⟨g, 0, none⟩)] w (GetR w g rb L .u32 (l3, ok3, p3, er3))) := by
      intro g rb w h; have := get_uint32 g rb p2 L er2 w h; rwa [T3.out] at this
    unfold GetR at G3
    dsimp only at G3
    generalize val l3 = x3 at *
    have hw3 : IntKind.u64.wrap (x3 : Int) = x3 := by rw [IntKind.wrap_u64]; omega
    have Q4 := Lib.hid (Q3.out.box 4 0 0 (x2 : Int))
    generalize hX : w3.heap.size = X at Q4
    unfold pfC at Q4
    go_wp2_with fail
    refine (G3.out _ _ _ Q4.out.rd).mono ?_
    rintro e w4 ⟨rfl, hr1, ho1⟩
    have q5 := Q4.out.read hr1 ho1
    have d2 : w4.cell? ⟨X, 2, none⟩ = some (.int .u64 0) := blk_cell q5.bx 2
    have f2 := blk_free q5.bx 2
    have Q5 := Lib.hid (q5.store (f2 := 4) (h2 := 0) (l2 := x3) (b2 := (x2 : Int)) 2 (.int .u64 (x3 : Int)) rfl)
    clear hr1 ho1 q5
    go_wp2_with fail
    refine (err_any _ _ _ _ _ _ Q5.out.rd).mono ?_
    rintro e w5 ⟨k, rfl, rfl⟩
    have Q6 := Lib.hid (Q5.out.drewN k)
    clear d2 f2
    generalize ((w4.setCell ⟨X, 2, none⟩ (.int .u64 (x3 : Int))).drewN k) = W5 at Q6 ⊢
    have Q7 := Q6.out
    have c0 : W5.cell? ⟨X, 0, none⟩ = some (.int .i64 4) := blk_cell Q7.bx 0
    have c1 : W5.cell? ⟨X, 1, none⟩ = some (.int .u64 0) := blk_cell Q7.bx 1
    have c2 : W5.cell? ⟨X, 2, none⟩ = some (.int .u64 (x3 : Int)) := blk_cell Q7.bx 2
    have c3 : W5.cell? ⟨X, 3, none⟩ = some (.int .i64 (x2 : Int)) := blk_cell Q7.bx 3
    by_cases he : er3 = 0
    · have V := Lib.hid (fun W => valid_any 4 0 x3 (x2 : Int) W (by omega) (by omega))
      cases hpv : pvB 4 0 x3 (x2 : Int)
      · rw [hpv] at V
        have HZ : Hid (r = ((0, 0, 0, 0), 0, 70)) := by
          rw [← HR.out]; unfold pfxFin; exact if_pos (.inr hpv)
        clear hpv Q7
        subst he
        go_wp2_with fail
        refine (V.out _).mono ?_
        rintro e w6 ⟨rfl, hb6⟩
        have h6 := Q6.out.h.step hb6
        obtain ⟨y0, y1, y2, y3, z0, z1, z2, z3⟩ := h6.zero
        have F := h6.fin0
        have JJ := Lib.hid (And.intro F.out.1 (And.intro F.out.2.1 (And.intro F.out.2.2.1 F.out.2.2.2.1)))
        have HF := Lib.hid F.out.2.2.2.2
        clear F h6 hb6
        go_wp2_with fail
        rw [HZ.out]
        obtain ⟨j0, j1, j2, j3⟩ := JJ.out
        exact bodyPost_ret (v := pgV ((0, 0, 0, 0), 0, 70)) (by simp [results, Tryz.results85, go_sem, pgV, pfV, j0, j1, j2, j3]) rfl ⟨rfl, HF.out⟩
      · rw [hpv] at V
        have HZ : Hid (r = ((4, 0, x3, x2), p3, 0)) := by
          rw [← HR.out]; unfold pfxFin; exact if_neg (by rintro (h | h); exact h he; rw [hpv] at h; cases h)
        clear hpv Q7
        subst he
        go_wp2_with fail
        refine (V.out _).mono ?_
        rintro e w6 ⟨rfl, hb6⟩
        have q6 := Q6.out.step hb6
        have h6 := q6.h
        have c0 : w6.cell? ⟨X, 0, none⟩ = some (.int .i64 4) := blk_cell q6.bx 0
        have c1 : w6.cell? ⟨X, 1, none⟩ = some (.int .u64 0) := blk_cell q6.bx 1
        have c2 : w6.cell? ⟨X, 2, none⟩ = some (.int .u64 (x3 : Int)) := blk_cell q6.bx 2
        have c3 : w6.cell? ⟨X, 3, none⟩ = some (.int .i64 (x2 : Int)) := blk_cell q6.bx 3
        obtain ⟨y0, y1, y2, y3, z0, z1, z2, z3⟩ := h6.zero
        have F := h6.fin4 x3 (x2 : Int)
        have JJ := Lib.hid (And.intro F.out.1 (And.intro F.out.2.1 (And.intro F.out.2.2.1 F.out.2.2.2.1)))
        have HF := Lib.hid F.out.2.2.2.2
        clear F q6 h6 hb6
        go_wp2_with fail
        rw [HZ.out]
        obtain ⟨j0, j1, j2, j3⟩ := JJ.out
        exact bodyPost_ret (v := pgV ((4, 0, x3, x2), p3, 0)) (by simp [results, Tryz.results85, go_sem, pgV, pfV, j0, j1, j2, j3]) rfl ⟨rfl, HF.out⟩
    · have hen : (er3 != 0) = true := by simpa using he
      have HZ : Hid (r = ((0, 0, 0, 0), 0, 70)) := by
        rw [← HR.out]; unfold pfxFin; exact if_pos (.inl he)
      have h6 := Q7.h
      obtain ⟨y0, y1, y2, y3, z0, z1, z2, z3⟩ := h6.zero
      have F := h6.fin0
      have JJ := Lib.hid (And.intro F.out.1 (And.intro F.out.2.1 (And.intro F.out.2.2.1 F.out.2.2.2.1)))
      have HF := Lib.hid F.out.2.2.2.2
      clear F h6 Q7 he
      go_wp2_with fail
      rw [HZ.out]
      obtain ⟨j0, j1, j2, j3⟩ := JJ.out
      exact bodyPost_ret (v := pgV ((0, 0, 0, 0), 0, 70)) (by simp [results, Tryz.results85, go_sem, pgV, pfV, j0, j1, j2, j3]) rfl ⟨rfl, HF.out⟩
  · have h4b : ((x1 : Int) == 4) = false := by rw [beq_eq_false_iff_ne]; omega
    rw [if_neg h4] at HR
    generalize hT3 : takes L p2 8 er2 = t3 at *
    obtain ⟨l3, ok3, p3, er3⟩ := t3
    dsimp only at HR
    generalize hT4 : takes L p3 8 er3 = t4 at *
    obtain ⟨l4, ok4, p4, er4⟩ := t4
    dsimp only at HR
    have T3 := Lib.hid hT3
    have T4 := Lib.hid hT4
    have B3 : val l3 < 18446744073709551616 := Nat.lt_of_lt_of_le (val_pow (k := 8) (by have := (takes_len L p2 8 er2).1; rwa [hT3] at this)) (by decide)
    have B4 : val l4 < 18446744073709551616 := Nat.lt_of_lt_of_le (val_pow (k := 8) (by have := (takes_len L p3 8 er3).1; rwa [hT4] at this)) (by decide)
    clear hT3 hT4
    have G3 : Hid (∀ g rb w, Rdr w g rb L p2 er2 → Calls Tryz.prog 44 #[.pointer (some ⟨g, 0, none⟩)] w (GetR w g rb L .u64 (l3, ok3, p3, er3))) := by
      intro g rb w h; have := get_uint64 g rb p2 L er2 w h; rwa [T3.out] at this
    have G4 : Hid (∀ g rb w, Rdr w g rb L p3 er3 → Calls Tryz.prog 44 #[.pointer (some ⟨g, 0, none⟩)] w (GetR w g rb L .u64 (l4, ok4, p4, er4))) := by
      intro g rb w h; have := get_uint64 g rb p3 L er3 w h; rwa [T4.out] at this
    unfold GetR at G3 G4
    dsimp only at G3 G4
    generalize val l3 = x3 at *
    generalize val l4 = x4 at *
    have Q4 := Lib.hid (Q3.out.box (x1 : Int) 0 0 (x2 : Int))
    generalize hX : w3.heap.size = X at Q4
    unfold pfC at Q4
    go_wp2_with fail
    refine (G3.out _ _ _ Q4.out.rd).mono ?_
    rintro e w4 ⟨rfl, hr1, ho1⟩
    have q5 := Q4.out.read hr1 ho1
    have d1 : w4.cell? ⟨X, 1, none⟩ = some (.int .u64 0) := blk_cell q5.bx 1
    have f1 := blk_free q5.bx 1
    have Q5 := Lib.hid (q5.store (f2 := (x1 : Int)) (h2 := x3) (l2 := 0) (b2 := (x2 : Int)) 1 (.int .u64 (x3 : Int)) rfl)
    clear hr1 ho1 q5
    go_wp2_with fail
    refine (G4.out _ _ _ Q5.out.rd).mono ?_
    rintro e w5 ⟨rfl, hr1, ho1⟩
    have q5 := Q5.out.read hr1 ho1
    have d2 : w5.cell? ⟨X, 2, none⟩ = some (.int .u64 0) := blk_cell q5.bx 2
    have f2 := blk_free q5.bx 2
    have Q7 := Lib.hid (q5.store (f2 := (x1 : Int)) (h2 := x3) (l2 := x4) (b2 := (x2 : Int)) 2 (.int .u64 (x4 : Int)) rfl)
    clear hr1 ho1 q5 d1 f1
    go_wp2_with fail
    refine (err_any _ _ _ _ _ _ Q7.out.rd).mono ?_
    rintro e w6 ⟨k, rfl, rfl⟩
    have Q6 := Lib.hid (Q7.out.drewN k)
    clear d2 f2 Q7
    generalize ((w5.setCell ⟨X, 2, none⟩ (.int .u64 (x4 : Int))).drewN k) = W5 at Q6 ⊢
    have Q7 := Q6.out
    have c0 : W5.cell? ⟨X, 0, none⟩ = some (.int .i64 (x1 : Int)) := blk_cell Q7.bx 0
    have c1 : W5.cell? ⟨X, 1, none⟩ = some (.int .u64 (x3 : Int)) := blk_cell Q7.bx 1
    have c2 : W5.cell? ⟨X, 2, none⟩ = some (.int .u64 (x4 : Int)) := blk_cell Q7.bx 2
    have c3 : W5.cell? ⟨X, 3, none⟩ = some (.int .i64 (x2 : Int)) := blk_cell Q7.bx 3
    by_cases he : er4 = 0
    · have V := Lib.hid (fun W => valid_any (x1 : Int) x3 x4 (x2 : Int) W (by omega) (by omega))
      cases hpv : pvB (x1 : Int) x3 x4 (x2 : Int)
      · rw [hpv] at V
        have HZ : Hid (r = ((0, 0, 0, 0), 0, 70)) := by
          rw [← HR.out]; unfold pfxFin; exact if_pos (.inr hpv)
        clear hpv Q7
        subst he
        go_wp2_with fail
        refine (V.out _).mono ?_
        rintro e w6 ⟨rfl, hb6⟩
        have h6 := Q6.out.h.step hb6
        obtain ⟨y0, y1, y2, y3, z0, z1, z2, z3⟩ := h6.zero
        have F := h6.fin0
        have JJ := Lib.hid (And.intro F.out.1 (And.intro F.out.2.1 (And.intro F.out.2.2.1 F.out.2.2.2.1)))
        have HF := Lib.hid F.out.2.2.2.2
        clear F h6 hb6
        go_wp2_with fail
        rw [HZ.out]
        obtain ⟨j0, j1, j2, j3⟩ := JJ.out
        exact bodyPost_ret (v := pgV ((0, 0, 0, 0), 0, 70)) (by simp [results, Tryz.results85, go_sem, pgV, pfV, j0, j1, j2, j3]) rfl ⟨rfl, HF.out⟩
      · rw [hpv] at V
        have HZ : Hid (r = (((x1 : Int), x3, x4, x2), p4, 0)) := by
          rw [← HR.out]; unfold pfxFin; exact if_neg (by rintro (h | h); exact h he; rw [hpv] at h; cases h)
        clear hpv Q7
        subst he
        go_wp2_with fail
        refine (V.out _).mono ?_
        rintro e w6 ⟨rfl, hb6⟩
        have q6 := Q6.out.step hb6
        have h6 := q6.h
        have c0 : w6.cell? ⟨X, 0, none⟩ = some (.int .i64 (x1 : Int)) := blk_cell q6.bx 0
        have c1 : w6.cell? ⟨X, 1, none⟩ = some (.int .u64 (x3 : Int)) := blk_cell q6.bx 1
        have c2 : w6.cell? ⟨X, 2, none⟩ = some (.int .u64 (x4 : Int)) := blk_cell q6.bx 2
        have c3 : w6.cell? ⟨X, 3, none⟩ = some (.int .i64 (x2 : Int)) := blk_cell q6.bx 3
        obtain ⟨y0, y1, y2, y3, z0, z1, z2, z3⟩ := h6.zero
        have F := h6.fin (x1 : Int) x3 x4 (x2 : Int)
        have JJ := Lib.hid (And.intro F.out.1 (And.intro F.out.2.1 (And.intro F.out.2.2.1 F.out.2.2.2.1)))
        have HF := Lib.hid F.out.2.2.2.2
        clear F q6 h6 hb6
        go_wp2_with fail
        rw [HZ.out]
        obtain ⟨j0, j1, j2, j3⟩ := JJ.out
        exact bodyPost_ret (v := pgV (((x1 : Int), x3, x4, x2), p4, 0)) (by simp [results, Tryz.results85, go_sem, pgV, pfV, j0, j1, j2, j3]) rfl ⟨rfl, HF.out⟩
    · have hen : (er4 != 0) = true := by simpa using he
      have HZ : Hid (r = ((0, 0, 0, 0), 0, 70)) := by
        rw [← HR.out]; unfold pfxFin; exact if_pos (.inl he)
      have h6 := Q7.h
      obtain ⟨y0, y1, y2, y3, z0, z1, z2, z3⟩ := h6.zero
      have F := h6.fin0
      have JJ := Lib.hid (And.intro F.out.1 (And.intro F.out.2.1 (And.intro F.out.2.2.1 F.out.2.2.2.1)))
      have HF := Lib.hid F.out.2.2.2.2
      clear F h6 Q7 he
      go_wp2_with fail
      rw [HZ.out]
      obtain ⟨j0, j1, j2, j3⟩ := JJ.out
      exact bodyPost_ret (v := pgV ((0, 0, 0, 0), 0, 70)) (by simp [results, Tryz.results85, go_sem, pgV, pfV, j0, j1, j2, j3]) rfl ⟨rfl, HF.out⟩
set_option maxRecDepth 100000 in
set_option maxHeartbeats 1000000 in
theorem getP_rdL (A : Option Addr) (c : Nat) (l : List UInt8) (w : World) (ha : Bs w A c l) (h18 : 18 < l.length) :
    Calls Tryz.prog 85 #[.slice A l.length c] w (Pure w (pgV (pfxFin (pfxRd (l.take 18))))) := by
  have hb0 := bs_take ha 18
  have H0 := Lib.hid (PfR.start w)
  have h18i : 18 < (l.length : Int) := by omega
  have hci : (18 : Int) ≤ (c : Int) := by have := ha.le; omega
  have BD := Lib.hid hb0
  have N := Lib.hid (fun W h => newReader A c (l.take 18) W h)
  rw [List.length_take, Nat.min_eq_left (by omega)] at N
  clear hb0 ha
  generalize l.take 18 = L at *
  generalize l.length = n at *
  generalize hr : pfxFin (pfxRd L) = r
  have HR := Lib.hid hr
  clear hr
  unfold pfxRd at HR
  generalize hT1 : takes L 0 1 0 = t1 at *
  obtain ⟨l1, ok1, p1, er1⟩ := t1
  dsimp only at HR
  generalize hT2 : takes L p1 1 er1 = t2 at *
  obtain ⟨l2, ok2, p2, er2⟩ := t2
  dsimp only at HR
  have T1 := Lib.hid hT1
  have T2 := Lib.hid hT2
  have B1 : val l1 < 256 := val_pow (k := 1) (by have := (takes_len L 0 1 0).1; rwa [hT1] at this)
  have B2 : val l2 < 256 := val_pow (k := 1) (by have := (takes_len L p1 1 er1).1; rwa [hT2] at this)
  clear hT1 hT2
  have G1 : Hid (∀ g rb w, Rdr w g rb L 0 0 → Calls Tryz.prog 42 #[.pointer (some ⟨g, 0, none⟩)] w (GetR w g rb L .u8 (l1, ok1, p1, er1))) := by
    intro g rb w h; have := get_uint8 g rb 0 L 0 w h; rwa [T1.out] at this
  have G2 : Hid (∀ g rb w, Rdr w g rb L p1 er1 → Calls Tryz.prog 42 #[.pointer (some ⟨g, 0, none⟩)] w (GetR w g rb L .u8 (l2, ok2, p2, er2))) := by
    intro g rb w h; have := get_uint8 g rb p1 L er1 w h; rwa [T2.out] at this
  unfold GetR at G1 G2
  dsimp only at G1 G2
  generalize val l1 = x1 at *
  generalize val l2 = x2 at *
  have hw1 : IntKind.i64.wrap (x1 : Int) = x1 := IntWalk.i64_in _ (by omega)
  have hw2 : IntKind.i64.wrap (x2 : Int) = x2 := IntWalk.i64_in _ (by omega)
  go_enter Tryz.func85, Tryz.ntmps85
  go_wp2_with fail
  refine (N.out _ (BD.out.below H0.out.below)).mono ?_
  intro e w1 hn
  obtain ⟨g, rb, rfl, q1⟩ := PGr.of H0.out hn
  have Q1 := Lib.hid q1
  clear hn q1
  go_wp2_with fail
  refine (G1.out _ _ _ Q1.out.rd).mono ?_
  rintro e w2 ⟨rfl, hr1, ho1⟩
  have Q2 := Lib.hid (Q1.out.read hr1 ho1)
  clear hr1 ho1
  go_wp2_with fail
  refine (G2.out _ _ _ Q2.out.rd).mono ?_
  rintro e w3 ⟨rfl, hr1, ho1⟩
  have Q3 := Lib.hid (Q2.out.read hr1 ho1)
  clear hr1 ho1
  by_cases h4 : x1 = 4
  · subst h4
    rw [if_pos rfl] at HR
    generalize hT3 : takes L p2 4 er2 = t3 at *
    obtain ⟨l3, ok3, p3, er3⟩ := t3
    dsimp only at HR
    have T3 := Lib.hid hT3
    have B3 : val l3 < 4294967296 := Nat.lt_of_lt_of_le (val_pow (k := 4) (by have := (takes_len L p2 4 er2).1; rwa [hT3] at this)) (by decide)
    clear hT3
    have G3 : Hid (∀ g rb w, Rdr w g rb L p2 er2 → Calls Tryz.prog 43 #[.pointer (some ⟨g, 0, none⟩)] w (GetR w g rb L .u32 (l3, ok3, p3, er3))) := by
      intro g rb w h; have := get_uint32 g rb p2 L er2 w h; rwa [T3.out] at this
    unfold GetR at G3
    dsimp only at G3
    generalize val l3 = x3 at *
    have hw3 : IntKind.u64.wrap (x3 : Int) = x3 := by rw [IntKind.wrap_u64]; omega
    have Q4 := Lib.hid (Q3.out.box 4 0 0 (x2 : Int))
    generalize hX : w3.heap.size = X at Q4
    unfold pfC at Q4
    go_wp2_with fail
    refine (G3.out _ _ _ Q4.out.rd).mono ?_
    rintro e w4 ⟨rfl, hr1, ho1⟩
    have q5 := Q4.out.read hr1 ho1
    have d2 : w4.cell? ⟨X, 2, none⟩ = some (.int .u64 0) := blk_cell q5.bx 2
    have f2 := blk_free q5.bx 2
    have Q5 := Lib.hid (q5.store (f2 := 4) (h2 := 0) (l2 := x3) (b2 := (x2 : Int)) 2 (.int .u64 (x3 : Int)) rfl)
    clear hr1 ho1 q5
    go_wp2_with fail
    refine (err_any _ _ _ _ _ _ Q5.out.rd).mono ?_
    rintro e w5 ⟨k, rfl, rfl⟩
    have Q6 := Lib.hid (Q5.out.drewN k)
    clear d2 f2
    generalize ((w4.setCell ⟨X, 2, none⟩ (.int .u64 (x3 : Int))).drewN k) = W5 at Q6 ⊢
    have Q7 := Q6.out
    have c0 : W5.cell? ⟨X, 0, none⟩ = some (.int .i64 4) := blk_cell Q7.bx 0
    have c1 : W5.cell? ⟨X, 1, none⟩ = some (.int .u64 0) := blk_cell Q7.bx 1
    have c2 : W5.cell? ⟨X, 2, none⟩ = some (.int .u64 (x3 : Int)) := blk_cell Q7.bx 2
    have c3 : W5.cell? ⟨X, 3, none⟩ = some (.int .i64 (x2 : Int)) := blk_cell Q7.bx 3
    by_cases he : er3 = 0
    · have V := Lib.hid (fun W => valid_any 4 0 x3 (x2 : Int) W (by omega) (by omega))
      cases hpv : pvB 4 0 x3 (x2 : Int)
      · rw [hpv] at V
        have HZ : Hid (r = ((0, 0, 0, 0), 0, 70)) := by
          rw [← HR.out]; unfold pfxFin; exact if_pos (.inr hpv)
        clear hpv Q7
        subst he
        go_wp2_with fail
        refine (V.out _).mono ?_
        rintro e w6 ⟨rfl, hb6⟩
        have h6 := Q6.out.h.step hb6
        obtain ⟨y0, y1, y2, y3, z0, z1, z2, z3⟩ := h6.zero
        have F := h6.fin0
        have JJ := Lib.hid (And.intro F.out.1 (And.intro F.out.2.1 (And.intro F.out.2.2.1 F.out.2.2.2.1)))
        have HF := Lib.hid F.out.2.2.2.2
        clear F h6 hb6
        go_wp2_with fail
        rw [HZ.out]
        obtain ⟨j0, j1, j2, j3⟩ := JJ.out
        exact bodyPost_ret (v := pgV ((0, 0, 0, 0), 0, 70)) (by simp [results, Tryz.results85, go_sem, pgV, pfV, j0, j1, j2, j3]) rfl ⟨rfl, HF.out⟩
      · rw [hpv] at V
        have HZ : Hid (r = ((4, 0, x3, x2), p3, 0)) := by
          rw [← HR.out]; unfold pfxFin; exact if_neg (by rintro (h | h); exact h he; rw [hpv] at h; cases h)
        clear hpv Q7
        subst he
        go_wp2_with fail
        refine (V.out _).mono ?_
        rintro e w6 ⟨rfl, hb6⟩
        have q6 := Q6.out.step hb6
        have h6 := q6.h
        have c0 : w6.cell? ⟨X, 0, none⟩ = some (.int .i64 4) := blk_cell q6.bx 0
        have c1 : w6.cell? ⟨X, 1, none⟩ = some (.int .u64 0) := blk_cell q6.bx 1
        have c2 : w6.cell? ⟨X, 2, none⟩ = some (.int .u64 (x3 : Int)) := blk_cell q6.bx 2
        have c3 : w6.cell? ⟨X, 3, none⟩ = some (.int .i64 (x2 : Int)) := blk_cell q6.bx 3
        obtain ⟨y0, y1, y2, y3, z0, z1, z2, z3⟩ := h6.zero
        have F := h6.fin4 x3 (x2 : Int)
        have JJ := Lib.hid (And.intro F.out.1 (And.intro F.out.2.1 (And.intro F.out.2.2.1 F.out.2.2.2.1)))
        have HF := Lib.hid F.out.2.2.2.2
        clear F q6 h6 hb6
        go_wp2_with fail
        rw [HZ.out]
        obtain ⟨j0, j1, j2, j3⟩ := JJ.out
        exact bodyPost_ret (v := pgV ((4, 0, x3, x2), p3, 0)) (by simp [results, Tryz.results85, go_sem, pgV, pfV, j0, j1, j2, j3]) rfl ⟨rfl, HF.out⟩
    · have hen : (er3 != 0) = true := by simpa using he
      have HZ : Hid (r = ((0, 0, 0, 0), 0, 70)) := by
        rw [← HR.out]; unfold pfxFin; exact if_pos (.inl he)
      have h6 := Q7.h
      obtain ⟨y0, y1, y2, y3, z0, z1, z2, z3⟩ := h6.zero
      have F := h6.fin0
      have JJ := Lib.hid (And.intro F.out.1 (And.intro F.out.2.1 (And.intro F.out.2.2.1 F.out.2.2.2.1)))
      have HF := Lib.hid F.out.2.2.2.2
      clear F h6 Q7 he
      go_wp2_with fail
      rw [HZ.out]
      obtain ⟨j0, j1, j2, j3⟩ := JJ.out
      exact bodyPost_ret (v := pgV ((0, 0, 0, 0), 0, 70)) (by simp [results, Tryz.results85, go_sem, pgV, pfV, j0, j1, j2, j3]) rfl ⟨rfl, HF.out⟩
  · have h4b : ((x1 : Int) == 4) = false := by rw [beq_eq_false_iff_ne]; omega
    rw [if_neg h4] at HR
    generalize hT3 : takes L p2 8 er2 = t3 at *
    obtain ⟨l3, ok3, p3, er3⟩ := t3
    dsimp only at HR
    generalize hT4 : takes L p3 8 er3 = t4 at *
    obtain ⟨l4, ok4, p4, er4⟩ := t4
    dsimp only at HR
    have T3 := Lib.hid hT3
    have T4 := Lib.hid hT4
    have B3 : val l3 < 18446744073709551616 := Nat.lt_of_lt_of_le (val_pow (k := 8) (by have := (takes_len L p2 8 er2).1; rwa [hT3] at this)) (by decide)
    have B4 : val l4 < 18446744073709551616 := Nat.lt_of_lt_of_le (val_pow (k := 8) (by have := (takes_len L p3 8 er3).1; rwa [hT4] at this)) (by decide)
    clear hT3 hT4
    have G3 : Hid (∀ g rb w, Rdr w g rb L p2 er2 → Calls Tryz.prog 44 #[.pointer (some ⟨g, 0, none⟩)] w (GetR w g rb L .u64 (l3, ok3, p3, er3))) := by
      intro g rb w h; have := get_uint64 g rb p2 L er2 w h; rwa [T3.out] at this
    have G4 : Hid (∀ g rb w, Rdr w g rb L p3 er3 → Calls Tryz.prog 44 #[.pointer (some ⟨g, 0, none⟩)] w (GetR w g rb L .u64 (l4, ok4, p4, er4))) := by
      intro g rb w h; have := get_uint64 g rb p3 L er3 w h; rwa [T4.out] at this
    unfold GetR at G3 G4
    dsimp only at G3 G4
    generalize val l3 = x3 at *
    generalize val l4 = x4 at *
    have Q4 := Lib.hid (Q3.out.box (x1 : Int) 0 0 (x2 : Int))
    generalize hX : w3.heap.size = X at Q4
    unfold pfC at Q4
    go_wp2_with fail
    refine (G3.out _ _ _ Q4.out.rd).mono ?_
    rintro e w4 ⟨rfl, hr1, ho1⟩
    have q5 := Q4.out.read hr1 ho1
    have d1 : w4.cell? ⟨X, 1, none⟩ = some (.int .u64 0) := blk_cell q5.bx 1
    have f1 := blk_free q5.bx 1
    have Q5 := Lib.hid (q5.store (f2 := (x1 : Int)) (h2 := x3) (l2 := 0) (b2 := (x2 : Int)) 1 (.int .u64 (x3 : Int)) rfl)
    clear hr1 ho1 q5
    go_wp2_with fail
    refine (G4.out _ _ _ Q5.out.rd).mono ?_
    rintro e w5 ⟨rfl, hr1, ho1⟩
    have q5 := Q5.out.read hr1 ho1
    have d2 : w5.cell? ⟨X, 2, none⟩ = some (.int .u64 0) := blk_cell q5.bx 2
    have f2 := blk_free q5.bx 2
    have Q7 := Lib.hid (q5.store (f2 := (x1 : Int)) (h2 := x3) (l2 := x4) (b2 := (x2 : Int)) 2 (.int .u64 (x4 : Int)) rfl)
    clear hr1 ho1 q5 d1 f1
    go_wp2_with fail
    refine (err_any _ _ _ _ _ _ Q7.out.rd).mono ?_
    rintro e w6 ⟨k, rfl, rfl⟩
    have Q6 := Lib.hid (Q7.out.drewN k)
    clear d2 f2 Q7
    generalize ((w5.setCell ⟨X, 2, none⟩ (.int .u64 (x4 : Int))).drewN k) = W5 at Q6 ⊢
    have Q7 := Q6.out
    have c0 : W5.cell? ⟨X, 0, none⟩ = some (.int .i64 (x1 : Int)) := blk_cell Q7.bx 0
    have c1 : W5.cell? ⟨X, 1, none⟩ = some (.int .u64 (x3 : Int)) := blk_cell Q7.bx 1
    have c2 : W5.cell? ⟨X, 2, none⟩ = some (.int .u64 (x4 : Int)) := blk_cell Q7.bx 2
    have c3 : W5.cell? ⟨X, 3, none⟩ = some (.int .i64 (x2 : Int)) := blk_cell Q7.bx 3
    by_cases he : er4 = 0
    · have V := Lib.hid (fun W => valid_any (x1 : Int) x3 x4 (x2 : Int) W (by omega) (by omega))
      cases hpv : pvB (x1 : Int) x3 x4 (x2 : Int)
      · rw [hpv] at V
        have HZ : Hid (r = ((0, 0, 0, 0), 0, 70)) := by
          rw [← HR.out]; unfold pfxFin; exact if_pos (.inr hpv)
        clear hpv Q7
        subst he
        go_wp2_with fail
        refine (V.out _).mono ?_
        rintro e w6 ⟨rfl, hb6⟩
        have h6 := Q6.out.h.step hb6
        obtain ⟨y0, y1, y2, y3, z0, z1, z2, z3⟩ := h6.zero
        have F := h6.fin0
        have JJ := Lib.hid (And.intro F.out.1 (And.intro F.out.2.1 (And.intro F.out.2.2.1 F.out.2.2.2.1)))
        have HF := Lib.hid F.out.2.2.2.2
        clear F h6 hb6
        go_wp2_with fail
        rw [HZ.out]
        obtain ⟨j0, j1, j2, j3⟩ := JJ.out
        exact bodyPost_ret (v := pgV ((0, 0, 0, 0), 0, 70)) (by simp [results, Tryz.results85, go_sem, pgV, pfV, j0, j1, j2, j3]) rfl ⟨rfl, HF.out⟩
      · rw [hpv] at V
        have HZ : Hid (r = (((x1 : Int), x3, x4, x2), p4, 0)) := by
          rw [← HR.out]; unfold pfxFin; exact if_neg (by rintro (h | h); exact h he; rw [hpv] at h; cases h)
        clear hpv Q7
        subst he
        go_wp2_with fail
        refine (V.out _).mono ?_
        rintro e w6 ⟨rfl, hb6⟩
        have q6 := Q6.out.step hb6
        have h6 := q6.h
        have c0 : w6.cell? ⟨X, 0, none⟩ = some (.int .i64 (x1 : Int)) := blk_cell q6.bx 0
        have c1 : w6.cell? ⟨X, 1, none⟩ = some (.int .u64 (x3 : Int)) := blk_cell q6.bx 1
        have c2 : w6.cell? ⟨X, 2, none⟩ = some (.int .u64 (x4 : Int)) := blk_cell q6.bx 2
        have c3 : w6.cell? ⟨X, 3, none⟩ = some (.int .i64 (x2 : Int)) := blk_cell q6.bx 3
        obtain ⟨y0, y1, y2, y3, z0, z1, z2, z3⟩ := h6.zero
        have F := h6.fin (x1 : Int) x3 x4 (x2 : Int)
        have JJ := Lib.hid (And.intro F.out.1 (And.intro F.out.2.1 (And.intro F.out.2.2.1 F.out.2.2.2.1)))
        have HF := Lib.hid F.out.2.2.2.2
        clear F q6 h6 hb6
        go_wp2_with fail
        rw [HZ.out]
        obtain ⟨j0, j1, j2, j3⟩ := JJ.out
        exact bodyPost_ret (v := pgV (((x1 : Int), x3, x4, x2), p4, 0)) (by simp [results, Tryz.results85, go_sem, pgV, pfV, j0, j1, j2, j3]) rfl ⟨rfl, HF.out⟩
    · have hen : (er4 != 0) = true := by simpa using he
      have HZ : Hid (r = ((0, 0, 0, 0), 0, 70)) := by
        rw [← HR.out]; unfold pfxFin; exact if_pos (.inl he)
      have h6 := Q7.h
      obtain ⟨y0, y1, y2, y3, z0, z1, z2, z3⟩ := h6.zero
      have F := h6.fin0
      have JJ := Lib.hid (And.intro F.out.1 (And.intro F.out.2.1 (And.intro F.out.2.2.1 F.out.2.2.2.1)))
      have HF := Lib.hid F.out.2.2.2.2
      clear F h6 Q7 he
      go_wp2_with fail
      rw [HZ.out]
      obtain ⟨j0, j1, j2, j3⟩ := JJ.out
      exact bodyPost_ret (v := pgV ((0, 0, 0, 0), 0, 70)) (by simp [results, Tryz.results85, go_sem, pgV, pfV, j0, j1, j2, j3]) rfl ⟨rfl, HF.out⟩

theorem getP_rd (A : Option Addr) (c : Nat) (l : List UInt8) (w : World) (ha : Bs w A c l) :
    Calls Tryz.prog 85 #[.slice A l.length c] w (Pure w (pgV (pfxFin (pfxRd (l.take 18))))) := by
  rcases Nat.lt_or_ge 18 l.length with h | h
  · exact getP_rdL A c l w ha h
  · exact getP_rdS A c l w ha h
end Go.Proofs.YtafdhccdjbfepaaGreat.Pfx
/- The plain law of Get of a prefix: what the reader reads is what the document says. -/
namespace Go.Proofs.YtafdhccdjbfepaaGreat.Pfx
open Go.RowKit Go.Proofs.YtafdhccdjbfepaaGreat.K Go.Proofs.YtafdhccdjbfepaaGreat.Help
set_option linter.unusedVariables false

theorem takes_err {L : List UInt8} {p n : Nat} {e : Int} (h : e ≠ 0) : takes L p n e = ([], false, p, e) := by unfold takes; simp [h]
theorem ten : (10 : Int) ≠ 0 := by decide
theorem takes_no {L : List UInt8} {p n : Nat} (h : L.length < p + n) (hn : 0 < n) : ∃ q, takes L p n 0 = ([], false, q, 10) := by
  refine ⟨p, ?_⟩
  unfold takes
  rw [if_neg (by simp), if_pos (by omega)]
theorem val_app2 (a b : List UInt8) : val (a ++ b) = val a * 256 ^ b.length + val b := by
  induction a with
  | nil => simp [val]
  | cons x r ih => rw [List.cons_append, val_cons, val_cons, ih, List.length_append, Nat.pow_add, Nat.add_mul]; simp [Nat.mul_assoc, Nat.add_assoc]
theorem val_one (l : List UInt8) (k : Nat) (h : k < l.length) : val (cutN l k 1) = (l.getD k 0).toNat := by
  have : cutN l k 1 = [l.getD k 0] := by
    unfold cutN
    rw [List.drop_eq_getElem_cons h, List.getD_eq_getElem?_getD, List.getElem?_eq_getElem h]
    rfl
  rw [this]
  simp [val]
theorem take_cut (l : List UInt8) (p n m : Nat) (h : p + n ≤ m) : cutN (l.take m) p n = cutN l p n := by
  unfold cutN
  rw [List.drop_take, List.take_take, Nat.min_eq_left (by omega)]
theorem take_getD (l : List UInt8) (k m : Nat) (h : k < m) : (l.take m).getD k 0 = l.getD k 0 := by
  rw [List.getD_eq_getElem?_getD, List.getD_eq_getElem?_getD, List.getElem?_take_of_lt h]
theorem pfxFin_bad {r : PfxD × Nat × Int} (h : r.2.2 ≠ 0) : pfxFin r = ((0, 0, 0, 0), 0, 70) := if_pos (.inl h)
theorem pvB_other {fam : Int} {hi lo : Nat} {bits : Int} (h4 : fam ≠ 4) (h6 : fam ≠ 6) : pvB fam hi lo bits = false := by
  cases h : pvB fam hi lo bits
  · rfl
  · obtain ⟨-, -, -, hf⟩ := pvB_spec h
    omega
theorem pfx_law (l : List UInt8) : pfxFin (pfxRd (l.take 18)) = pfxGet l := by
  have hLl : (l.take 18).length = min 18 l.length := List.length_take ..
  have tc := fun p n h => take_cut l p n 18 h
  have tg := fun k h => take_getD l k 18 h
  generalize hL : l.take 18 = L at *
  unfold pfxGet
  by_cases h2 : l.length < 2
  · rw [if_pos h2]
    apply pfxFin_bad
    unfold pfxRd
    by_cases h1 : l.length < 1
    · obtain ⟨q, hq⟩ := takes_no (L := L) (p := 0) (n := 1) (by omega) (by omega)
      simp only [hq, takes_err ten]
      rw [if_neg (by simp [val])]
      exact ten
    · rw [takes_ok (L := L) (p := 0) (n := 1) (by omega)]
      dsimp only
      obtain ⟨q, hq⟩ := takes_no (L := L) (p := 0 + 1) (n := 1) (by omega) (by omega)
      simp only [hq, takes_err ten]
      split <;> exact ten
  · rw [if_neg h2]
    unfold pfxRd
    rw [takes_ok (L := L) (p := 0) (n := 1) (by omega)]
    dsimp only
    rw [takes_ok (L := L) (p := 0 + 1) (n := 1) (by omega)]
    dsimp only
    rw [val_one L 0 (by omega), val_one L (0 + 1) (by omega), tg 0 (by omega), tg (0 + 1) (by omega)]
    simp only [Nat.zero_add, Nat.reduceAdd]
    have hb0 := (l.getD 0 0).toNat_lt
    generalize (l.getD 0 0).toNat = x0 at *
    generalize (l.getD 1 0).toNat = x1 at *
    by_cases h4 : x0 = 4
    · subst h4
      rw [if_pos rfl, show pw ((4 : Nat) : Int) / 8 = 4 from rfl]
      by_cases hn : l.length < 6
      · rw [if_pos (.inr (by omega))]
        obtain ⟨q, hq⟩ := takes_no (L := L) (p := 2) (n := 4) (by omega) (by omega)
        rw [hq]
        exact pfxFin_bad ten
      · rw [if_neg (by omega), takes_ok (L := L) (p := 2) (n := 4) (by omega), tc 2 4 (by omega)]
        dsimp only
        have hv : val (cutN l 2 4) < 4294967296 := val_pow (k := 4) (by unfold cutN; rw [List.length_take]; omega)
        have e : (l.drop 2).take 4 = cutN l 2 4 := rfl
        rw [e, show val (cutN l 2 4) / 18446744073709551616 = 0 by omega, show val (cutN l 2 4) % 18446744073709551616 = val (cutN l 2 4) by omega]
        generalize val (cutN l 2 4) = v at *
        unfold pfxFin
        dsimp only
        cases hp : pvB 4 0 v (x1 : Int)
        · rw [if_pos (.inr rfl)]
          exact (if_neg (by decide)).symm
        · rw [if_neg (by simp)]
          exact (if_pos rfl).symm
    · rw [if_neg h4]
      by_cases h6 : x0 = 6
      · subst h6
        rw [show pw ((6 : Nat) : Int) / 8 = 16 from rfl]
        by_cases hn : l.length < 18
        · rw [if_pos (.inr (by omega))]
          apply pfxFin_bad
          dsimp only
          by_cases h10 : l.length < 10
          · obtain ⟨q, hq⟩ := takes_no (L := L) (p := 2) (n := 8) (by omega) (by omega)
            simp only [hq, takes_err ten]
            exact ten
          · rw [takes_ok (L := L) (p := 2) (n := 8) (by omega)]
            dsimp only
            obtain ⟨q, hq⟩ := takes_no (L := L) (p := 2 + 8) (n := 8) (by omega) (by omega)
            rw [hq]
            exact ten
        · rw [if_neg (by omega), takes_ok (L := L) (p := 2) (n := 8) (by omega)]
          dsimp only
          rw [takes_ok (L := L) (p := 2 + 8) (n := 8) (by omega), tc 2 8 (by omega), tc (2 + 8) 8 (by omega)]
          dsimp only
          have hl : val (cutN l (2 + 8) 8) < 18446744073709551616 := Nat.lt_of_lt_of_le (val_pow (k := 8) (by unfold cutN; rw [List.length_take]; omega)) (by decide)
          have e : (l.drop 2).take 16 = cutN l 2 8 ++ cutN l (2 + 8) 8 := by
            unfold cutN
            rw [show (16 : Nat) = 8 + 8 from rfl, List.take_add, List.drop_drop]
          rw [e, val_app2, cutN_len (by omega), show (256 : Nat) ^ 8 = 18446744073709551616 from rfl]
          generalize val (cutN l 2 8) = hi at *
          generalize val (cutN l (2 + 8) 8) = lo at *
          rw [show (hi * 18446744073709551616 + lo) / 18446744073709551616 = hi by omega, show (hi * 18446744073709551616 + lo) % 18446744073709551616 = lo by omega]
          unfold pfxFin
          dsimp only
          cases hp : pvB ((6 : Nat) : Int) hi lo (x1 : Int)
          · rw [if_pos (.inr rfl), if_neg (by decide)]
          · rw [if_neg (by simp), if_pos rfl]
      · have hp0 : pw (x0 : Int) = 0 := by unfold pw; rw [if_neg (by omega), if_neg (by omega)]
        rw [hp0, if_pos (.inl rfl)]
        exact if_pos (.inr (pvB_other (by dsimp only; omega) (by dsimp only; omega)))
theorem getP_any (A : Option Addr) (c : Nat) (l : List UInt8) (w : World) (ha : Bs w A c l) :
    Calls Tryz.prog 85 #[.slice A l.length c] w (Pure w (pgV (pfxGet l))) := by
  rw [← pfx_law]; exact getP_rd A c l w ha
end Go.Proofs.YtafdhccdjbfepaaGreat.Pfx
/- The walk of the closed sentence 'first'. -/
namespace Go.Proofs.YtafdhccdjbfepaaGreat.Help
open Go.RowKit Go.Proofs.YtafdhccdjbfepaaGreat.K
set_option linter.unusedVariables false

theorem putBoots_258 : putBoots 258 = ([66], [0, 0, 0, 0, 0, 0, 1, 2], 0) := by decide
def firstLane : LaneD := ⟨List.replicate 32 9, 1, 1, 0, 0, 1000, 5, 6⟩
theorem firstLane_b : LaneB firstLane := ⟨by decide, by decide, by decide⟩
theorem firstLane_ok : laneOk firstLane := by decide
theorem blk_step {W W2 : World} {g : Nat} {o : Obj} (h : W.heap[g]? = some o) (hb : Below W.heap.size W W2) : W2.heap[g]? = some o := (hb.block _ (blk_lt h)).trans h
set_option maxRecDepth 100000 in
set_option maxHeartbeats 1000000 in
theorem first_any (w : World) : Calls Tryz.prog 4 #[] w (Pure w (.bool true)) := by
  have P1 := Lib.hid (putBoots_any 258 w (by decide))
  rw [putBoots_258] at P1
  have hlen := putLane_len (d := firstLane) (by rw [putLane_yes firstLane_ok])
  have hcode : (putLane firstLane).2.2 = 0 := by rw [putLane_yes firstLane_ok]
  have hback := laneGet_put firstLane_b firstLane_ok
  have P2 := Lib.hid (fun A c W h => putLane_any A c firstLane W h firstLane_b)
  rw [hcode] at P2
  have KY := Lib.hid (fun W => key_any 9 W)
  generalize hl1 : (putLane firstLane).1 = k1 at *
  generalize hl2 : (putLane firstLane).2.1 = v1 at *
  have HL := Lib.hid hlen.2
  have G := Lib.hid (fun A B c d W h1 h2 => getLane_any A B c d k1 v1 W h1 h2)
  rw [hback] at G
  clear hlen hcode hback hl1 hl2
  unfold laneV at P2
  have e9 : firstLane.key = List.replicate 32 9 := rfl
  dsimp only [firstLane] at P2
  generalize hkk : List.replicate 32 (9 : UInt8) = kk at *
  have HKK := Lib.hid hkk
  clear hkk e9
  go_enter Tryz.func4, Tryz.ntmps4
  go_wp2_with fail
  refine P1.out.mono ?_
  rintro e w1 ⟨x1, x2, rfl, o1, o2, hb1⟩
  obtain ⟨A1, c1, rfl, s1⟩ := o1.bs
  obtain ⟨A2, c2, rfl, s2⟩ := o2.bs
  have HB1 := Lib.hid hb1
  have S1 := Lib.hid s1
  have S2 := Lib.hid s2
  clear o1 o2 hb1 s1 s2
  go_wp2_with fail
  have hba : Below w1.heap.size w1 ((((w1.alloc (.cells #[.slice A1 1 c1, .slice A2 8 c2] 47)).alloc (.cells #[.int .u8 66] 5)).alloc (.cells #[.int .u8 0, .int .u8 0, .int .u8 0, .int .u8 0, .int .u8 0, .int .u8 0, .int .u8 1, .int .u8 2] 5)).alloc (.cells #[.slice (some ⟨w1.heap.size + 1, 0, none⟩) 1 1, .slice (some ⟨w1.heap.size + 1 + 1, 0, none⟩) 8 8] 47)) := below_alloc (below_alloc (below_alloc (below_alloc (Below.refl _ _) _) _) _) _
  have L1 : Blk ((((w1.alloc (.cells #[.slice A1 1 c1, .slice A2 8 c2] 47)).alloc (.cells #[.int .u8 66] 5)).alloc (.cells #[.int .u8 0, .int .u8 0, .int .u8 0, .int .u8 0, .int .u8 0, .int .u8 0, .int .u8 1, .int .u8 2] 5)).alloc (.cells #[.slice (some ⟨w1.heap.size + 1, 0, none⟩) 1 1, .slice (some ⟨w1.heap.size + 1 + 1, 0, none⟩) 8 8] 47)) (w1.heap.size + 1) [66] := by
    have h := blk_new (w1.alloc (.cells #[.slice A1 1 c1, .slice A2 8 c2] 47)) (.cells #[.int .u8 66] 5)
    rw [show (w1.alloc (.cells #[.slice A1 1 c1, .slice A2 8 c2] 47)).heap.size = w1.heap.size + 1 by simp] at h
    exact blk_alloc (blk_alloc h _) _
  have L2 : Blk ((((w1.alloc (.cells #[.slice A1 1 c1, .slice A2 8 c2] 47)).alloc (.cells #[.int .u8 66] 5)).alloc (.cells #[.int .u8 0, .int .u8 0, .int .u8 0, .int .u8 0, .int .u8 0, .int .u8 0, .int .u8 1, .int .u8 2] 5)).alloc (.cells #[.slice (some ⟨w1.heap.size + 1, 0, none⟩) 1 1, .slice (some ⟨w1.heap.size + 1 + 1, 0, none⟩) 8 8] 47)) (w1.heap.size + 1 + 1) [0, 0, 0, 0, 0, 0, 1, 2] := by
    have h := blk_new ((w1.alloc (.cells #[.slice A1 1 c1, .slice A2 8 c2] 47)).alloc (.cells #[.int .u8 66] 5)) (.cells #[.int .u8 0, .int .u8 0, .int .u8 0, .int .u8 0, .int .u8 0, .int .u8 0, .int .u8 1, .int .u8 2] 5)
    rw [show ((w1.alloc (.cells #[.slice A1 1 c1, .slice A2 8 c2] 47)).alloc (.cells #[.int .u8 66] 5)).heap.size = w1.heap.size + 1 + 1 by simp] at h
    exact blk_alloc h _
  refine (sameRow A1 A2 (some ⟨w1.heap.size + 1, 0, none⟩) (some ⟨w1.heap.size + 1 + 1, 0, none⟩) c1 c2 1 8 [66] [0, 0, 0, 0, 0, 0, 1, 2] [66] [0, 0, 0, 0, 0, 0, 1, 2] _ (S1.out.below hba) (S2.out.below hba) (L1.bs (by decide)) (L2.bs (by decide))).mono ?_
  rintro e w2 ⟨rfl, hb2⟩
  have HB2 := Lib.hid (below_step (below_step HB1.out hba) hb2)
  clear hba L1 L2 hb2
  rw [show (decide (([66] : List UInt8) = [66]) && decide (([0, 0, 0, 0, 0, 0, 1, 2] : List UInt8) = [0, 0, 0, 0, 0, 0, 1, 2])) = true by decide]
  clear S1 S2 HB1 P1
  go_wp2_with fail
  refine (KY.out _).mono ?_
  rintro e w3 ⟨x3, rfl, o3, hb3⟩
  obtain ⟨A3, c3, rfl, s3⟩ := o3.bs
  have HB3 := Lib.hid (below_step HB2.out hb3)
  have S3 := Lib.hid (s3.below (below_alloc (Below.refl _ _) (.cells #[.slice A3 kk.length c3, .int .i64 1, .int .i64 1, .int .i64 0, .int .u64 0, .int .u64 1000, .int .i64 5, .int .i64 6] 43)))
  have L3 := Lib.hid (blk_new w3 (.cells #[.slice A3 kk.length c3, .int .i64 1, .int .i64 1, .int .i64 0, .int .u64 0, .int .u64 1000, .int .i64 5, .int .i64 6] 43))
  clear o3 hb3 s3
  go_wp2_with fail
  refine (P2.out A3 c3 _ S3.out).mono ?_
  rintro e w4 ⟨x4, x5, rfl, o4, o5, hb4⟩
  obtain ⟨A4, c4, rfl, s4⟩ := o4.bs
  obtain ⟨A5, c5, rfl, s5⟩ := o5.bs
  have hq := below_alloc (Below.refl w4.heap.size w4) (.cells #[.slice A4 k1.length c4, .slice A5 v1.length c5] 47)
  have S3b := Lib.hid ((S3.out.below hb4).below hq)
  have L4 := Lib.hid (blk_step (blk_step L3.out hb4) hq)
  have HB4 := Lib.hid (below_step (below_step (below_alloc HB3.out (.cells #[.slice A3 kk.length c3, .int .i64 1, .int .i64 1, .int .i64 0, .int .u64 0, .int .u64 1000, .int .i64 5, .int .i64 6] 43)) hb4) hq)
  have S4 := Lib.hid (s4.below hq)
  have S5 := Lib.hid (s5.below hq)
  have Q4 := Lib.hid (blk_new w4 (.cells #[.slice A4 k1.length c4, .slice A5 v1.length c5] 47))
  clear o4 o5 s4 s5 hq hb4
  go_wp2_with fail
  refine (G.out A4 A5 c4 c5 _ S4.out S5.out).mono ?_
  rintro e w5 ⟨A6, c6, rfl, s6, hb5, -⟩
  unfold laneV
  have e6 : Bs w5 A6 c6 kk := by rw [← HKK.out]; exact s6
  have hk6 : firstLane.key.length = kk.length := by rw [← HKK.out]; rfl
  rw [hk6]
  dsimp only [firstLane]
  have hm := below_alloc (Below.refl w5.heap.size w5) (.cells #[.slice A6 kk.length c6, .int .i64 1, .int .i64 1, .int .i64 0, .int .u64 0, .int .u64 1000, .int .i64 5, .int .i64 6] 43)
  have L5 := blk_step (blk_step L4.out hb5) hm
  obtain ⟨p0, p1, p2, p3, p4, p5, p6, p7⟩ := lane_cells (A := A3) (n := kk.length) (c := c3) (side := 1) (cur := 1) (next := 0) (sc := 0) (ce := 1000) (se := 5) (na := 6) L5
  have HB5 := Lib.hid (below_step (below_step HB4.out hb5) hm)
  have SL := Lib.hid (sameLane_refl A3 A6 c3 c6 ⟨kk, 1, 1, 0, 0, 1000, 5, 6⟩ _ ((S3b.out.below hb5).below hm) (e6.below hm))
  have Q5 := Lib.hid (blk_step (blk_step Q4.out hb5) hm)
  clear hb5 s6 e6 hk6 hm L5
  unfold laneV at SL
  dsimp only at SL
  go_wp2_with fail
  refine SL.out.mono ?_
  rintro e w6 ⟨rfl, hb6⟩
  have q6 := blk_step Q5.out hb6
  have t1 : w6.cell? ⟨w4.heap.size, 1, none⟩ = some (.slice A5 v1.length c5) := blk_cell q6 1
  have HB6 := Lib.hid (below_step HB5.out hb6)
  have h37 : ((v1.length : Int) == 37) = true := by rw [beq_iff_eq]; have := HL.out; omega
  clear q6 hb6
  go_wp2_with (go_at_call 21; refine (num_any _ _).mono ?_; rintro e w' ⟨rfl, rfl⟩)
  go_ret
  exact ⟨rfl, HB6.out⟩
end Go.Proofs.YtafdhccdjbfepaaGreat.Help
/- How a law's statement follows from a walk that ends in true and leaves all old memory as it was. -/
namespace Go.Proofs.YtafdhccdjbfepaaGreat.K
open Go.ChangeShapes Go.WideShapes Go.ChangeAt Go.RowKit

theorem trodAll_below {H : Type} {enc : TypeId × Value → H} {P : Program} (hl : laidOutB P = true) {W W' : World} (hb : Below W.heap.size W W') {sp : Nat → Bool} :
    ∀ (ts : List TypeId) (vs : List Value) (ds : List (DataW H)) (ps : List MemPlace), (∀ t ∈ ts, P.readableRec t = true ∧ t < P.types.size) → DataW.TrodAll enc P W 0 (fun _ => true) true ts vs ds ps →
      (∀ p ∈ ps, p.block < W.heap.size) → (∀ p ∈ ps, sp p.block = true) → DataW.TrodAll enc P W' 0 sp true ts vs ds ps := by
  intro ts
  induction ts with
  | nil =>
    intro vs ds ps _ h _ _
    obtain ⟨rfl, rfl, rfl⟩ := trodAll_nil h
    exact trodAll_mk0
  | cons t ts ih =>
    intro vs ds ps hr h hlt hsp
    obtain ⟨v, vs', d, ds', p, q, rfl, rfl, rfl, h1, h2⟩ := trodAll_cons h
    have hp : ∀ x ∈ p, x ∈ p ++ q := fun x hx => List.mem_append.2 (.inl hx)
    have hq : ∀ x ∈ q, x ∈ p ++ q := fun x hx => List.mem_append.2 (.inr hx)
    exact trodAll_cons_mk (WideElems.Trod_stays hl (hr t (by simp)).1 (hr t (by simp)).2 h1 (fun x hx => hb.same (hlt x (hp x hx))) (fun x hx => hsp x (hp x hx)))
      (ih vs' ds' q (fun t ht => hr t (by simp [ht])) h2 (fun x hx => hlt x (hq x hx)) (fun x hx => hsp x (hq x hx)))

theorem post_law {H : Type} {enc : TypeId × Value → H} {P : Program} {f : Func} {s : ChangeSpec} {apart : Bool} {W W' : World} {args : Array Value} {ds : List (DataW H)} {before : List MemPlace} (hl : laidOutB P = true)
    (hr : ∀ t ∈ f.params.toList, P.readableRec t = true ∧ t < P.types.size) (hW : DataW.Whole enc P f.params.toList [] apart W args.toList ds [] before) (hv : s.vars = [])
    (hs : s.fn H ds = { results := [.lit (.bool true)], args := ds }) {tb : TypeId} (hrt : f.resultTypes = #[tb]) (htb : P.underlying tb = some .bool) (hb : Below W.heap.size W W') :
    s.post enc P f apart true false false W args (.bool true) W' := by
  have hlt : ∀ p ∈ before, p.block < W.heap.size := fun p hp => hW.lt p hp
  have hold : ∀ p ∈ before, (fun b => decide (b < W.heap.size)) p.block = true := fun p hp => by simpa using hlt p hp
  have hW' := hW
  obtain ⟨p, q, hA0, hV, rfl, _, _⟩ := hW
  obtain ⟨_, rfl⟩ := trodVars_none hV
  simp only [List.append_nil] at *
  have hA : DataW.TrodAll enc P W 0 (fun _ => true) true f.params.toList args.toList ds p := hA0
  have hargs : ∀ sp : Nat → Bool, (∀ x ∈ p, sp x.block = true) → DataW.TrodAll enc P W' 0 sp true f.params.toList args.toList ds p := fun sp h => trodAll_below hl hb _ _ _ _ hr hA hlt h
  have hres : ∀ (b : Nat) (sp : Nat → Bool) (hd : Bool), DataW.TrodAll enc P W' b sp hd f.resultTypes.toList ((Value.bool true).resultList f.resultTypes.size) [.lit (.bool true)] [] := fun b sp hd => by
    rw [hrt]; exact trodAll_mk1 (shut_bool htb true)
  refine ⟨ds, [], p, [], p, [], by rw [hv]; exact hW', by rw [List.append_nil, hs]; exact hres _ _ _, by rw [List.append_nil, hs]; exact hargs _ hold, by rw [hv, List.append_nil, hs]; exact rfl, World.keptBut_mono (fun x hx => ⟨hx, ?_⟩) (hb.frame (· ∈ p)), fun h => by cases h⟩
  simpa using hx

/-! arguments as they come in -/
/-- a slice of whole numbers that came in, nil let in -/
structure ReadsI (k : IntKind) (w : World) (A : Option Addr) (n : Nat) (xs : List Int) : Prop where
  len : xs.length = n
  max : n ≤ 9223372036854775807
  wf : ∀ x, x ∈ xs → (Lit.int k x).wf = true
  at_ : ∀ i, i < n → ∃ ad, A = some ad ∧ ad.block < w.heap.size ∧ w.cell? (ad.add i) = some (.int k (xs.getD i 0))
theorem block_add (a : Addr) (n : Nat) : (a.add n).block = a.block := by unfold Addr.add; split <;> rfl
theorem ReadsI.below {k : IntKind} {w w' : World} {A : Option Addr} {n : Nat} {xs : List Int} (h : ReadsI k w A n xs) (hb : Below w.heap.size w w') : ReadsI k w' A n xs :=
  ⟨h.len, h.max, h.wf, fun i hi => by
    obtain ⟨ad, e, hlt, hc⟩ := h.at_ i hi
    exact ⟨ad, e, Nat.lt_of_lt_of_le hlt hb.size, (hb.cell (p := ad.add i) (by rw [block_add]; exact hlt)).trans hc⟩⟩
theorem arg_ints {H : Type} {enc : TypeId × Value → H} {P : Program} {W : World} {k : IntKind} {b0 : Nat} {t e : TypeId} {v : Value} {d : DataW H} {ps : List MemPlace} (ht : P.underlying t = some (.slice e)) (he : P.underlying e = some (.int k)) (hc : P.cellsOf e = 1)
    (hval : Value.okWide P W .any b0 t v) (h : DataW.Trod enc P W 0 (fun _ => true) true t v d ps) : ∃ A len cap xs, v = .slice A len cap ∧ ReadsI k W A len xs ∧ xs.length = len ∧ len ≤ cap ∧ cap ≤ 9223372036854775807 := by
  obtain ⟨a0, len, cap, rfl⟩ := okWide_slice ht hval
  obtain ⟨fuel, hf⟩ := h
  rcases open_ints ht he hc hf with ⟨hcs, hx⟩ | ⟨a, len', cap', zs, hcs, _, hl, hm, hz, hx, hcell, hwz⟩
  · simp [Value.cells] at hcs
    obtain ⟨rfl, rfl, rfl⟩ := hcs
    exact ⟨none, 0, 0, [], rfl, ⟨rfl, by omega, (fun x hx => by cases hx), fun i hi => by omega⟩, rfl, by omega, by omega⟩
  · simp [Value.cells] at hcs
    obtain ⟨rfl, rfl, rfl⟩ := hcs
    simp only [if_true] at hz
    have hlt : (zs.take len).length = len := by rw [List.length_take]; omega
    unfold maxLen at hm
    refine ⟨some a, len, cap, zs.take len, rfl, ⟨hlt, by omega, fun x hx => hwz x (List.mem_of_mem_take hx), fun i hi => ⟨a, rfl, ?_, ?_⟩⟩, hlt, hl, by omega⟩
    · have := World.block_lt_of_cell? W (a.add 0) (hcell 0 (by omega))
      rwa [block_add] at this
    · rw [hcell i (by omega)]
      simp [List.getD_eq_getElem?_getD, hi]
theorem wf_u64 {a : Int} (h : (Lit.int .u64 a).wf = true) : 0 ≤ a ∧ a ≤ 18446744073709551615 := by simpa [Lit.wf, IntKind.min, IntKind.max, IntKind.signed, IntKind.bits] using h
theorem wf_i64 {a : Int} (h : (Lit.int .i64 a).wf = true) : -9223372036854775808 ≤ a ∧ a ≤ 9223372036854775807 := by simpa [Lit.wf, IntKind.min, IntKind.max, IntKind.signed, IntKind.bits] using h
theorem nat_u64 {a : Int} (h : (Lit.int .u64 a).wf = true) : ∃ n : Nat, a = n ∧ n < 18446744073709551616 := by
  have := wf_u64 h
  exact ⟨a.toNat, by omega, by omega⟩
/-- a slice of uint64 that came in -/
structure ReadsU (w : World) (A : Option Addr) (n : Nat) (xs : List Nat) : Prop where
  len : xs.length = n
  max : n ≤ 9223372036854775807
  lt : ∀ x, x ∈ xs → x < 18446744073709551616
  at_ : ∀ i, i < n → ∃ ad, A = some ad ∧ ad.block < w.heap.size ∧ w.cell? (ad.add i) = some (.int .u64 (xs.getD i 0 : Nat))
theorem ReadsU.below {w w' : World} {A : Option Addr} {n : Nat} {xs : List Nat} (h : ReadsU w A n xs) (hb : Below w.heap.size w w') : ReadsU w' A n xs :=
  ⟨h.len, h.max, h.lt, fun i hi => by
    obtain ⟨ad, e, hlt, hc⟩ := h.at_ i hi
    exact ⟨ad, e, Nat.lt_of_lt_of_le hlt hb.size, (hb.cell (p := ad.add i) (by rw [block_add]; exact hlt)).trans hc⟩⟩
theorem arg_u64s {H : Type} {enc : TypeId × Value → H} {P : Program} {W : World} {b0 : Nat} {t e : TypeId} {v : Value} {d : DataW H} {ps : List MemPlace} (ht : P.underlying t = some (.slice e)) (he : P.underlying e = some (.int .u64)) (hc : P.cellsOf e = 1)
    (hval : Value.okWide P W .any b0 t v) (h : DataW.Trod enc P W 0 (fun _ => true) true t v d ps) : ∃ A len cap xs, v = .slice A len cap ∧ ReadsU W A len xs ∧ xs.length = len ∧ len ≤ cap ∧ cap ≤ 9223372036854775807 := by
  obtain ⟨A, len, cap, xs, rfl, hr, h1, h2, h3⟩ := arg_ints ht he hc hval h
  refine ⟨A, len, cap, xs.map Int.toNat, rfl, ⟨by rw [List.length_map]; exact hr.len, hr.max, ?_, fun i hi => ?_⟩, by rw [List.length_map]; exact h1, h2, h3⟩
  · intro x hx
    obtain ⟨y, hy, rfl⟩ := List.mem_map.1 hx
    have := wf_u64 (hr.wf y hy)
    omega
  · obtain ⟨ad, e, hlt, hcell⟩ := hr.at_ i hi
    refine ⟨ad, e, hlt, hcell.trans ?_⟩
    have hi' : i < xs.length := by have := hr.len; omega
    have hw := wf_u64 (hr.wf _ (List.getElem_mem hi'))
    simp only [List.getD_eq_getElem?_getD, List.getElem?_map, List.getElem?_eq_getElem hi', Option.map_some, Option.getD_some]
    congr 2
    omega
end Go.Proofs.YtafdhccdjbfepaaGreat.K
/- Rows and lanes as they come in. -/
namespace Go.Proofs.YtafdhccdjbfepaaGreat.Help
open Go.ChangeShapes Go.WideShapes Go.ChangeAt Go.RowKit Go.Proofs.YtafdhccdjbfepaaGreat.K
set_option linter.unusedVariables false
theorem cellsOf_u8 : Tryz.prog.cellsOf 5 = 1 := by kernel_rfl
theorem bytesOf_u8 : Tryz.prog.bytesOf 5 = 1 := by kernel_rfl
theorem cellsOf_bytes : Tryz.prog.cellsOf 33 = 1 := by kernel_rfl
theorem cellsOf_row : Tryz.prog.cellsOf 47 = 2 := by kernel_rfl
theorem cellsOf_lane : Tryz.prog.cellsOf 43 = 8 := by kernel_rfl
theorem cellsOf_stamp : Tryz.prog.cellsOf 41 = 2 := by kernel_rfl
theorem cellsOf_int : Tryz.prog.cellsOf 3 = 1 := by kernel_rfl
theorem cellsOf_u64 : Tryz.prog.cellsOf 39 = 1 := by kernel_rfl
def Small {H : Type} (d : DataW H) (t : TypeId) : Prop := ∀ n ∈ d.weights Tryz.prog t, n ≤ reachBytes
theorem trod_bytes {H : Type} {enc : TypeId × Value → H} {W : World} {fuel : Nat} {cs : List Value} {y : DataW H × List MemPlace} (h : DataW.trod enc Tryz.prog W 0 (fun _ => true) true fuel 33 cs = some y) (hz : Small y.1 33) :
    ∃ A c l, cs = [.slice A l.length c] ∧ Bs W A c l := by
  rcases open_ints u_slice8 u_u8 cellsOf_u8 h with ⟨rfl, rfl⟩ | ⟨a, len, cap, zs, rfl, _, hl, hm, hlen, rfl, hcell, hwf⟩
  · exact ⟨none, 0, [], rfl, Bs.nil _ _ _⟩
  · simp only [if_true] at hlen
    have hr : zs.length ≤ reachBytes := by
      have := hz ((lits .u8 (zs.take len) : List (DataW H)).length + (lits .u8 (zs.drop len) : List (DataW H)).length) (by simp [DataW.weights, bytesOf_u8])
      have e : ((lits .u8 (zs.take len) : List (DataW H)).length + (lits .u8 (zs.drop len) : List (DataW H)).length) = zs.length := by
        simp [lits]
        omega
      rwa [e] at this
    have hr2 : reachBytes = 140737488351232 := rfl
    have hll : ((zs.take len).map fun n => UInt8.ofNat n.toNat).length = len := by simp; omega
    refine ⟨some a, cap, (zs.take len).map fun n => UInt8.ofNat n.toNat, by rw [hll], by rw [hll]; exact hl, by rw [hll]; omega, fun i hi => ?_⟩
    rw [hll] at hi
    have hc := hcell i (by omega)
    have hlt := World.block_lt_of_cell? W _ hc
    rw [addr_add_block] at hlt
    refine ⟨a, rfl, hlt, hc.trans ?_⟩
    have hi' : i < zs.length := by omega
    have hw := hwf _ (List.getElem_mem hi')
    have hw2 : 0 ≤ zs[i] ∧ zs[i] ≤ 255 := by simpa [Lit.wf, IntKind.min, IntKind.max, IntKind.signed, IntKind.bits] using hw
    have e1 : zs.getD i 0 = zs[i] := by simp [hi']
    have e2 : ((zs.take len).map fun n => UInt8.ofNat n.toNat).getD i 0 = UInt8.ofNat zs[i].toNat := by simp [hi, hi']
    rw [e1, e2]
    congr 2
    simp
    omega
theorem arr2 {cs : Array Value} (h : cs.size = 2) : ∃ c0 c1, cs = #[c0, c1] := by
  obtain ⟨l⟩ := cs
  match l, h with
  | [c0, c1], _ => exact ⟨c0, c1, rfl⟩
set_option maxRecDepth 100000 in
theorem arg_row {H : Type} {enc : TypeId × Value → H} {W : World} {b0 : Nat} {v : Value} {d : DataW H} {ps : List MemPlace}
    (hval : Value.okWide Tryz.prog W .any b0 47 v) (h : DataW.Trod enc Tryz.prog W 0 (fun _ => true) true 47 v d ps) (hz : Small d 47) :
    ∃ A B a b k x, v = .agg #[.slice A k.length a, .slice B x.length b] ∧ Bs W A a k ∧ Bs W B b x := by
  obtain ⟨cs, rfl, hsz⟩ := okWide_struct Tryz.underlying47 hval
  obtain ⟨c0, c1, rfl⟩ := arr2 (hsz.trans cellsOf_row)
  obtain ⟨fuel, hf⟩ := h
  obtain ⟨xs, n', _, hx, hl, hxs, hfl⟩ := DataW.trod_struct Tryz.underlying47 hf
  have f0 : DataW.trod enc Tryz.prog W 0 (fun _ => true) true n' 33 (([c0, c1].drop 0).take (Tryz.prog.cellsOf 33)) = xs[0]? := hfl 0 _ rfl
  have f1 : DataW.trod enc Tryz.prog W 0 (fun _ => true) true n' 33 (([c0, c1].drop 1).take (Tryz.prog.cellsOf 33)) = xs[1]? := hfl 1 _ rfl
  rw [cellsOf_bytes] at f0 f1
  have hxl : xs.length = 2 := hxs
  match xs, hxl with
  | [y0, y1], _ =>
    injection hx with hd hp
    subst hd
    have w0 : Small y0.1 33 := fun n hn => hz n (by simp only [DataW.weights, Tryz.underlying47]; simp [DataW.weightsEach]; exact .inl hn)
    have w1 : Small y1.1 33 := fun n hn => hz n (by simp only [DataW.weights, Tryz.underlying47]; simp [DataW.weightsEach]; exact .inr hn)
    obtain ⟨A, a, k, e0, s0⟩ := trod_bytes f0 w0
    obtain ⟨B, b, x, e1, s1⟩ := trod_bytes f1 w1
    simp at e0 e1
    subst e0 e1
    exact ⟨A, B, a, b, k, x, rfl, s0, s1⟩
theorem arr8 {cs : Array Value} (h : cs.size = 8) : ∃ c0 c1 c2 c3 c4 c5 c6 c7, cs = #[c0, c1, c2, c3, c4, c5, c6, c7] := by
  obtain ⟨l⟩ := cs
  match l, h with
  | [c0, c1, c2, c3, c4, c5, c6, c7], _ => exact ⟨c0, c1, c2, c3, c4, c5, c6, c7, rfl⟩
set_option maxRecDepth 100000 in
theorem arg_lane {H : Type} {enc : TypeId × Value → H} {W : World} {b0 : Nat} {v : Value} {d : DataW H} {ps : List MemPlace}
    (hval : Value.okWide Tryz.prog W .any b0 43 v) (h : DataW.Trod enc Tryz.prog W 0 (fun _ => true) true 43 v d ps) (hz : Small d 43) :
    ∃ A a l, v = laneV A a l ∧ Bs W A a l.key ∧ LaneB l := by
  obtain ⟨cs, rfl, hsz⟩ := okWide_struct Tryz.underlying43 hval
  obtain ⟨c0, c1, c2, c3, c4, c5, c6, c7, rfl⟩ := arr8 (hsz.trans cellsOf_lane)
  obtain ⟨fuel, hf⟩ := h
  obtain ⟨xs, n', _, hx, hl, hxs, hfl⟩ := DataW.trod_struct Tryz.underlying43 hf
  have f0 : DataW.trod enc Tryz.prog W 0 (fun _ => true) true n' 33 (([c0, c1, c2, c3, c4, c5, c6, c7].drop 0).take (Tryz.prog.cellsOf 33)) = xs[0]? := hfl 0 _ rfl
  have f1 : DataW.trod enc Tryz.prog W 0 (fun _ => true) true n' 3 (([c0, c1, c2, c3, c4, c5, c6, c7].drop 1).take (Tryz.prog.cellsOf 3)) = xs[1]? := hfl 1 _ rfl
  have f2 : DataW.trod enc Tryz.prog W 0 (fun _ => true) true n' 3 (([c0, c1, c2, c3, c4, c5, c6, c7].drop 2).take (Tryz.prog.cellsOf 3)) = xs[2]? := hfl 2 _ rfl
  have f3 : DataW.trod enc Tryz.prog W 0 (fun _ => true) true n' 3 (([c0, c1, c2, c3, c4, c5, c6, c7].drop 3).take (Tryz.prog.cellsOf 3)) = xs[3]? := hfl 3 _ rfl
  have f4 : DataW.trod enc Tryz.prog W 0 (fun _ => true) true n' 39 (([c0, c1, c2, c3, c4, c5, c6, c7].drop 4).take (Tryz.prog.cellsOf 39)) = xs[4]? := hfl 4 _ rfl
  have f5 : DataW.trod enc Tryz.prog W 0 (fun _ => true) true n' 39 (([c0, c1, c2, c3, c4, c5, c6, c7].drop 5).take (Tryz.prog.cellsOf 39)) = xs[5]? := hfl 5 _ rfl
  have f6 : DataW.trod enc Tryz.prog W 0 (fun _ => true) true n' 41 (([c0, c1, c2, c3, c4, c5, c6, c7].drop 6).take (Tryz.prog.cellsOf 41)) = xs[6]? := hfl 6 _ rfl
  rw [cellsOf_bytes] at f0
  rw [cellsOf_int] at f1 f2 f3
  rw [cellsOf_u64] at f4 f5
  rw [cellsOf_stamp] at f6
  have hxl : xs.length = 7 := hxs
  match xs, hxl with
  | [y0, y1, y2, y3, y4, y5, y6], _ =>
    injection hx with hd hp
    subst hd
    have w0 : Small y0.1 33 := fun n hn => hz n (by simp only [DataW.weights, Tryz.underlying43]; simp [DataW.weightsEach]; exact .inl hn)
    obtain ⟨A, a, k, e0, s0⟩ := trod_bytes f0 w0
    obtain ⟨z1, e1, _, q1⟩ := DataW.trod_int Tryz.underlying3 f1
    obtain ⟨z2, e2, _, q2⟩ := DataW.trod_int Tryz.underlying3 f2
    obtain ⟨z3, e3, _, q3⟩ := DataW.trod_int Tryz.underlying3 f3
    obtain ⟨z4, e4, _, q4⟩ := DataW.trod_int Tryz.underlying39 f4
    obtain ⟨z5, e5, _, q5⟩ := DataW.trod_int Tryz.underlying39 f5
    obtain ⟨ys, n2, _, _, _, hys, hfs⟩ := DataW.trod_struct Tryz.underlying41 f6
    have g0 : DataW.trod enc Tryz.prog W 0 (fun _ => true) true n2 3 (([c6, c7].drop 0).take (Tryz.prog.cellsOf 3)) = ys[0]? := hfs 0 _ rfl
    have g1 : DataW.trod enc Tryz.prog W 0 (fun _ => true) true n2 3 (([c6, c7].drop 1).take (Tryz.prog.cellsOf 3)) = ys[1]? := hfs 1 _ rfl
    rw [cellsOf_int] at g0 g1
    have hyl : ys.length = 2 := hys
    match ys, hyl with
    | [u0, u1], _ =>
      obtain ⟨z6, e6, _, q6⟩ := DataW.trod_int Tryz.underlying3 g0
      obtain ⟨z7, e7, _, q7⟩ := DataW.trod_int Tryz.underlying3 g1
      simp at e0 e1 e2 e3 e4 e5 e6 e7
      subst e0 e1 e2 e3 e4 e5 e6 e7
      obtain ⟨m4, rfl, b4⟩ := nat_u64 q4
      obtain ⟨m5, rfl, b5⟩ := nat_u64 q5
      have b6 := wf_i64 q6
      exact ⟨A, a, ⟨k, z1, z2, z3, m4, m5, z6, z7⟩, rfl, s0, ⟨b4, b5, b6.2⟩⟩
end Go.Proofs.YtafdhccdjbfepaaGreat.Help
/- Peers as data, in memory, and as they come in. -/
namespace Go.Proofs.YtafdhccdjbfepaaGreat.Peer
open Go.ChangeShapes Go.WideShapes Go.ChangeAt Go.RowKit Go.Proofs.YtafdhccdjbfepaaGreat.K Go.Proofs.YtafdhccdjbfepaaGreat.Help Go.Proofs.YtafdhccdjbfepaaGreat.Pfx
set_option linter.unusedVariables false

/-- a prefix as it comes: family, halves, bits -/
abbrev PfxI := Int × Nat × Nat × Int
def zP : PfxI := (0, 0, 0, 0)
/-- prefixes in memory -/
structure Ps (w : World) (A : Option Addr) (c : Nat) (l : List PfxI) : Prop where
  le : l.length ≤ c
  max : c ≤ 9223372036854775807
  lt : ∀ x, x ∈ l → x.2.1 < 18446744073709551616 ∧ x.2.2.1 < 18446744073709551616
  at_ : ∀ i, i < l.length → ∃ bk off, A = some ⟨bk, off, none⟩ ∧ bk < w.heap.size ∧ w.cell? ⟨bk, off + i * 4, none⟩ = some (.int .i64 (l.getD i zP).1)
    ∧ w.cell? ⟨bk, off + i * 4 + 1, none⟩ = some (.int .u64 ((l.getD i zP).2.1 : Int)) ∧ w.cell? ⟨bk, off + i * 4 + 2, none⟩ = some (.int .u64 ((l.getD i zP).2.2.1 : Int))
    ∧ w.cell? ⟨bk, off + i * 4 + 3, none⟩ = some (.int .i64 (l.getD i zP).2.2.2)
section
variable {w w' : World} {A : Option Addr} {c : Nat} {l : List PfxI}
theorem Ps.below (h : Ps w A c l) (hb : Below w.heap.size w w') : Ps w' A c l :=
  ⟨h.le, h.max, h.lt, fun i hi => by
    obtain ⟨bk, off, e, hlt, h0, h1, h2, h3⟩ := h.at_ i hi
    exact ⟨bk, off, e, Nat.lt_of_lt_of_le hlt hb.size, (hb.cell (p := ⟨bk, _, none⟩) hlt).trans h0, (hb.cell (p := ⟨bk, _, none⟩) hlt).trans h1, (hb.cell (p := ⟨bk, _, none⟩) hlt).trans h2, (hb.cell (p := ⟨bk, _, none⟩) hlt).trans h3⟩⟩
theorem Ps.drewN (h : Ps w A c l) (n : Nat) : Ps (w.drewN n) A c l := ⟨h.le, h.max, h.lt, h.at_⟩
theorem Ps.nil (w : World) : Ps w none 0 [] := ⟨by simp, by simp, (fun x hx => by cases hx), fun i hi => by simp at hi⟩
theorem Ps.only {T : Nat → Prop} (h : Ps w A c l) (k : Only w w' T) (hT : ∀ bk off, A = some ⟨bk, off, none⟩ → ¬ T bk) : Ps w' A c l :=
  ⟨h.le, h.max, h.lt, fun i hi => by
    obtain ⟨bk, off, e, hlt, h0, h1, h2, h3⟩ := h.at_ i hi
    have hk := k.block bk hlt (hT bk off e)
    exact ⟨bk, off, e, Nat.lt_of_lt_of_le hlt k.size, (cell_blk (ad := ⟨bk, _, none⟩) hk).trans h0, (cell_blk (ad := ⟨bk, _, none⟩) hk).trans h1, (cell_blk (ad := ⟨bk, _, none⟩) hk).trans h2, (cell_blk (ad := ⟨bk, _, none⟩) hk).trans h3⟩⟩
end
/-- a peer -/
structure PeerD where
  link : Int
  key : List UInt8
  ps : List PfxI
def peerV (A : Option Addr) (a : Nat) (B : Option Addr) (b : Nat) (d : PeerD) : Value := .agg #[.int .i64 d.link, .slice A d.key.length a, .slice B d.ps.length b]

theorem cellsOf_pfx : Tryz.prog.cellsOf 110 = 4 := by kernel_rfl
theorem cellsOf_adr : Tryz.prog.cellsOf 108 = 3 := by kernel_rfl
theorem cellsOf_pfxs : Tryz.prog.cellsOf 34 = 1 := by kernel_rfl
theorem cellsOf_peer : Tryz.prog.cellsOf 36 = 3 := by kernel_rfl
set_option maxRecDepth 100000 in
theorem pfx_fields {H : Type} {enc : TypeId × Value → H} {W : World} {n : Nat} {cs : List Value} {y : DataW H × List MemPlace} (h : DataW.trod enc Tryz.prog W 0 (fun _ => true) true n 110 cs = some y) :
    ∃ x : PfxI, cs = [.int .i64 x.1, .int .u64 (x.2.1 : Int), .int .u64 (x.2.2.1 : Int), .int .i64 x.2.2.2] ∧ x.2.1 < 18446744073709551616 ∧ x.2.2.1 < 18446744073709551616 := by
  obtain ⟨xs, n', _, _, hl, hxs, hf⟩ := DataW.trod_struct Tryz.underlying110 h
  rw [cellsOf_pfx] at hl
  have f0 : DataW.trod enc Tryz.prog W 0 (fun _ => true) true n' 108 ((cs.drop 0).take (Tryz.prog.cellsOf 108)) = xs[0]? := hf 0 _ rfl
  have f1 : DataW.trod enc Tryz.prog W 0 (fun _ => true) true n' 3 ((cs.drop 3).take (Tryz.prog.cellsOf 3)) = xs[1]? := hf 1 _ rfl
  rw [cellsOf_adr] at f0
  rw [cellsOf_int] at f1
  have hxl : xs.length = 2 := hxs
  match cs, hl with
  | [v0, v1, v2, v3], _ =>
    match xs, hxl with
    | [y0, y1], _ =>
      obtain ⟨ys, n2, _, _, _, hys, hfs⟩ := DataW.trod_struct Tryz.underlying108 f0
      have g0 : DataW.trod enc Tryz.prog W 0 (fun _ => true) true n2 3 (([v0, v1, v2].drop 0).take (Tryz.prog.cellsOf 3)) = ys[0]? := hfs 0 _ rfl
      have g1 : DataW.trod enc Tryz.prog W 0 (fun _ => true) true n2 39 (([v0, v1, v2].drop 1).take (Tryz.prog.cellsOf 39)) = ys[1]? := hfs 1 _ rfl
      have g2 : DataW.trod enc Tryz.prog W 0 (fun _ => true) true n2 39 (([v0, v1, v2].drop 2).take (Tryz.prog.cellsOf 39)) = ys[2]? := hfs 2 _ rfl
      rw [cellsOf_int] at g0
      rw [cellsOf_u64] at g1 g2
      have hyl : ys.length = 3 := hys
      match ys, hyl with
      | [u0, u1, u2], _ =>
        obtain ⟨z0, e0, _, q0⟩ := DataW.trod_int Tryz.underlying3 g0
        obtain ⟨z1, e1, _, q1⟩ := DataW.trod_int Tryz.underlying39 g1
        obtain ⟨z2, e2, _, q2⟩ := DataW.trod_int Tryz.underlying39 g2
        obtain ⟨z3, e3, _, q3⟩ := DataW.trod_int Tryz.underlying3 f1
        simp at e0 e1 e2 e3
        subst e0 e1 e2 e3
        obtain ⟨m1, rfl, b1⟩ := nat_u64 q1
        obtain ⟨m2, rfl, b2⟩ := nat_u64 q2
        exact ⟨(z0, m1, m2, z3), rfl, b1, b2⟩
set_option maxRecDepth 100000 in
theorem trod_pfxs {H : Type} {enc : TypeId × Value → H} {W : World} {fuel : Nat} {cs : List Value} {y : DataW H × List MemPlace} (h : DataW.trod enc Tryz.prog W 0 (fun _ => true) true fuel 34 cs = some y) :
    ∃ A c l, cs = [.slice A l.length c] ∧ Ps W A c l := by
  rcases Go.Deep.open_slice Tryz.underlying34 h with ⟨hcs, hx⟩ | ⟨a, len, cap, m, n, D, Pl, hcs, _, hl, hm, hmm, hx, hcell⟩
  · exact ⟨none, 0, [], hcs, Ps.nil _⟩
  · simp only [if_true] at hmm
    rw [cellsOf_pfx, hmm] at hcell
    unfold maxLen at hm
    have hone : ∀ i, i < len → ∃ x : PfxI, (x.2.1 < 18446744073709551616 ∧ x.2.2.1 < 18446744073709551616) ∧ W.cell? (a.add (i * 4)) = some (.int .i64 x.1) ∧ W.cell? ((a.add (i * 4)).add 1) = some (.int .u64 (x.2.1 : Int)) ∧ W.cell? ((a.add (i * 4)).add 2) = some (.int .u64 (x.2.2.1 : Int)) ∧ W.cell? ((a.add (i * 4)).add 3) = some (.int .i64 x.2.2.2) := fun i hi => by
      obtain ⟨cs', hc, ht⟩ := hcell i (by omega)
      obtain ⟨_, hlc, hat⟩ := World.cells?_some hc
      obtain ⟨x, rfl, b1, b2⟩ := pfx_fields ht
      have h0 := hat 0 (by omega)
      have h1 := hat 1 (by omega)
      have h2 := hat 2 (by omega)
      have h3 := hat 3 (by omega)
      have e0 : (a.add (i * 4)).add 0 = a.add (i * 4) := by unfold Addr.add; simp
      rw [e0] at h0
      exact ⟨x, ⟨b1, b2⟩, h0, h1, h2, h3⟩
    obtain ⟨f, hf⟩ : ∃ f : Nat → PfxI, ∀ i, i < len → ((f i).2.1 < 18446744073709551616 ∧ (f i).2.2.1 < 18446744073709551616) ∧ W.cell? (a.add (i * 4)) = some (.int .i64 (f i).1) ∧ W.cell? ((a.add (i * 4)).add 1) = some (.int .u64 ((f i).2.1 : Int)) ∧ W.cell? ((a.add (i * 4)).add 2) = some (.int .u64 ((f i).2.2.1 : Int)) ∧ W.cell? ((a.add (i * 4)).add 3) = some (.int .i64 (f i).2.2.2) :=
      ⟨fun i => if h : i < len then (hone i h).choose else zP, fun i hi => by simp only [hi, dif_pos]; exact (hone i hi).choose_spec⟩
    refine ⟨some a, cap, (List.range len).map f, by rw [List.length_map, List.length_range]; exact hcs, ⟨by simpa using hl, by omega, fun x hx => ?_, fun i hi => ?_⟩⟩
    · obtain ⟨i, hi, rfl⟩ := List.mem_map.1 hx
      exact (hf i (List.mem_range.1 hi)).1
    · rw [List.length_map, List.length_range] at hi
      obtain ⟨_, h0, h1, h2, h3⟩ := hf i hi
      have hg : ((List.range len).map f).getD i zP = f i := by simp [hi]
      rw [hg]
      obtain ⟨bk, off, spot⟩ := a
      have hs : spot = none := by
        have h := (hf 0 (by omega)).2.1
        have e0 : (⟨bk, off, spot⟩ : Addr).add (0 * 4) = ⟨bk, off, spot⟩ := by unfold Addr.add; simp
        rw [e0] at h
        exact World.cell?_spot h
      subst hs
      have eb : ∀ o j, (⟨bk, o, none⟩ : Addr).add j = ⟨bk, o + j, none⟩ := fun o j => by unfold Addr.add; split <;> simp_all
      rw [eb] at h0 h1 h2 h3
      rw [eb] at h1 h2 h3
      exact ⟨bk, off, rfl, World.block_lt_of_cell? W _ h0, h0, h1, h2, h3⟩
theorem arr3 {cs : Array Value} (h : cs.size = 3) : ∃ c0 c1 c2, cs = #[c0, c1, c2] := by
  obtain ⟨l⟩ := cs
  match l, h with
  | [c0, c1, c2], _ => exact ⟨c0, c1, c2, rfl⟩
set_option maxRecDepth 100000 in
theorem arg_peer {H : Type} {enc : TypeId × Value → H} {W : World} {b0 : Nat} {v : Value} {d : DataW H} {ps : List MemPlace}
    (hval : Value.okWide Tryz.prog W .any b0 36 v) (h : DataW.Trod enc Tryz.prog W 0 (fun _ => true) true 36 v d ps) (hz : Small d 36) :
    ∃ A a B b p, v = peerV A a B b p ∧ Bs W A a p.key ∧ Ps W B b p.ps := by
  obtain ⟨cs, rfl, hsz⟩ := okWide_struct Tryz.underlying36 hval
  obtain ⟨c0, c1, c2, rfl⟩ := arr3 (hsz.trans cellsOf_peer)
  obtain ⟨fuel, hf⟩ := h
  obtain ⟨xs, n', _, hx, hl, hxs, hfl⟩ := DataW.trod_struct Tryz.underlying36 hf
  have f0 : DataW.trod enc Tryz.prog W 0 (fun _ => true) true n' 3 (([c0, c1, c2].drop 0).take (Tryz.prog.cellsOf 3)) = xs[0]? := hfl 0 _ rfl
  have f1 : DataW.trod enc Tryz.prog W 0 (fun _ => true) true n' 33 (([c0, c1, c2].drop 1).take (Tryz.prog.cellsOf 33)) = xs[1]? := hfl 1 _ rfl
  have f2 : DataW.trod enc Tryz.prog W 0 (fun _ => true) true n' 34 (([c0, c1, c2].drop 2).take (Tryz.prog.cellsOf 34)) = xs[2]? := hfl 2 _ rfl
  rw [cellsOf_int] at f0
  rw [cellsOf_bytes] at f1
  rw [cellsOf_pfxs] at f2
  have hxl : xs.length = 3 := hxs
  match xs, hxl with
  | [y0, y1, y2], _ =>
    injection hx with hd hp
    subst hd
    have w1 : Small y1.1 33 := fun n hn => hz n (by simp only [DataW.weights, Tryz.underlying36]; simp [DataW.weightsEach]; exact .inr (.inl hn))
    obtain ⟨z0, e0, _, q0⟩ := DataW.trod_int Tryz.underlying3 f0
    obtain ⟨A, a, k, e1, s1⟩ := trod_bytes f1 w1
    obtain ⟨B, b, l, e2, s2⟩ := trod_pfxs f2
    simp at e0 e1 e2
    subst e0 e1 e2
    exact ⟨A, a, B, b, ⟨z0, k, l⟩, rfl, s1, s2⟩
end Go.Proofs.YtafdhccdjbfepaaGreat.Peer
/- PutPeer, plain; its walk where the head is bad. -/
namespace Go.Proofs.YtafdhccdjbfepaaGreat.Peer
open Go.RowKit Go.Proofs.YtafdhccdjbfepaaGreat.K Go.Proofs.YtafdhccdjbfepaaGreat.Help Go.Proofs.YtafdhccdjbfepaaGreat.Pfx
set_option linter.unusedVariables false

def pvI (x : PfxI) : Bool := pvB x.1 x.2.1 x.2.2.1 x.2.2.2
def cmpI (x y : PfxI) : Int := cmpP x.1 x.2.1 x.2.2.1 x.2.2.2 y.1 y.2.1 y.2.2.1 y.2.2.2
def pfI (x : PfxI) : List UInt8 := pfBytes x.1 x.2.1 x.2.2.1 x.2.2.2
/-- may prefix number i be? -/
def okAt (l : List PfxI) (i : Nat) : Bool := pvI (l.getD i zP) && (decide (i = 0) || decide (cmpI (l.getD (i - 1) zP) (l.getD i zP) < 0))
def okTo (l : List PfxI) (n : Nat) : Prop := ∀ i, i < n → okAt l i = true
def headOk (d : PeerD) : Prop := 1 ≤ d.link ∧ d.link ≤ 4294967295 ∧ d.key.length = 32 ∧ d.ps.length ≤ 16
def peerOk (d : PeerD) : Prop := headOk d ∧ okTo d.ps d.ps.length
open Classical in
/-- a peer's row: key, value, code -/
noncomputable def putPeer (d : PeerD) : List UInt8 × List UInt8 × Int :=
  if peerOk d then ([0x50] ++ be 4 d.link.toNat, d.key ++ be 1 d.ps.length ++ d.ps.flatMap pfI, 0) else ([], [], 114)
theorem putPeer_bad {d : PeerD} (h : ¬ peerOk d) : putPeer d = ([], [], 114) := by unfold putPeer; exact if_neg h
theorem putPeer_ok {d : PeerD} (h : peerOk d) : putPeer d = ([0x50] ++ be 4 d.link.toNat, d.key ++ be 1 d.ps.length ++ d.ps.flatMap pfI, 0) := by unfold putPeer; exact if_pos h
theorem head_cases (d : PeerD) : (d.link < 1 ∧ ¬ headOk d) ∨ (1 ≤ d.link ∧ 4294967295 < d.link ∧ ¬ headOk d) ∨ (1 ≤ d.link ∧ d.link ≤ 4294967295 ∧ d.key.length ≠ 32 ∧ ¬ headOk d)
    ∨ (1 ≤ d.link ∧ d.link ≤ 4294967295 ∧ d.key.length = 32 ∧ 16 < d.ps.length ∧ ¬ headOk d) ∨ headOk d := by
  unfold headOk
  omega
/-- PutPeer's memory: the box of the peer, the answer's box -/
structure PeS (t : TypeId) (w w' : World) (x y : Value) (cs : Array Value) : Prop where
  b : w'.heap[w.heap.size]? = some (.cells cs 36 (0, 0))
  r : w'.heap[w.heap.size + 1]? = some (.cells #[x, y] t (0, 0))
  below : Below w.heap.size w w'
section
variable {t : TypeId} {w w' w2 : World} {x y : Value} {cs : Array Value}
theorem PeS.start (t : TypeId) (w : World) (x y : Value) (cs : Array Value) : PeS t w ((w.alloc (.cells cs 36)).alloc (.cells #[x, y] t)) x y cs :=
  ⟨blk_alloc (blk_new _ _) _, by have := blk_new (w.alloc (.cells cs 36)) (.cells #[x, y] t); simpa using this, below_alloc (below_alloc (Below.refl _ _) _) _⟩
theorem PeS.step (h : PeS t w w' x y cs) (hb : Below w'.heap.size w' w2) : PeS t w w2 x y cs := ⟨(hb.block _ (blk_lt h.b)).trans h.b, (hb.block _ (blk_lt h.r)).trans h.r, below_step h.below hb⟩
theorem PeS.only {T : Nat → Prop} (h : PeS t w w' x y cs) (k : Only w' w2 T) (hT : ∀ i, T i → w.heap.size + 1 < i) : PeS t w w2 x y cs :=
  ⟨k.blk h.b (fun h2 => by have := hT _ h2; omega), k.blk h.r (fun h2 => by have := hT _ h2; omega), below_only h.below k (fun i hi => by have := hT i hi; omega)⟩
theorem PeS.drewN (h : PeS t w w' x y cs) (n : Nat) : PeS t w (w'.drewN n) x y cs := ⟨h.b, h.r, below_drewN h.below n⟩
theorem PeS.cell (h : PeS t w w' x y cs) (j : Nat) : w'.cell? ⟨w.heap.size, j, none⟩ = cs[j]? := blk_cell h.b j
theorem PeS.rcell (h : PeS t w w' x y cs) (j : Nat) : w'.cell? ⟨w.heap.size + 1, j, none⟩ = (#[x, y] : Array Value)[j]? := blk_cell h.r j
theorem PeS.free (h : PeS t w w' x y cs) (j : Nat) : w'.frozen? ⟨w.heap.size + 1, j, none⟩ = false := blk_free h.r j
theorem PeS.lt (h : PeS t w w' x y cs) : w.heap.size + 1 < w'.heap.size := blk_lt h.r
theorem PeS.bs (h : PeS t w w' x y cs) {A : Option Addr} {c : Nat} {l : List UInt8} (hs : Bs w A c l) : Bs w' A c l := hs.below h.below
theorem PeS.ps (h : PeS t w w' x y cs) {A : Option Addr} {c : Nat} {l : List PfxI} (hs : Ps w A c l) : Ps w' A c l := hs.below h.below
end
set_option maxRecDepth 100000 in
set_option maxHeartbeats 1000000 in
theorem putPeer_head (A B : Option Addr) (a b : Nat) (d : PeerD) (w : World) (hk : d.key.length ≤ 140737488355328) (hn : ¬ headOk d) :
    Calls Tryz.prog 27 #[peerV A a B b d] w (RowRet w [] [] 114) := by
  obtain ⟨link, key, ps⟩ := d
  unfold peerV
  have hcs := head_cases ⟨link, key, ps⟩
  dsimp only at *
  rcases hcs with ⟨g1, -⟩ | ⟨g1, g2, -⟩ | ⟨g1, g2, g3, -⟩ | ⟨g1, g2, g3, g4, -⟩ | h
  · clear hn
    generalize key.length = n at *
    generalize ps.length = m at *
    go_enter Tryz.func27, Tryz.ntmps27
    go_wp2_with fail
    exact bodyPost_ret (v := .tuple #[.agg #[.slice none 0 0, .slice none 0 0], .int .i64 114]) (by simp [results, Tryz.results27, go_sem]) rfl ⟨_, _, rfl, Own.nil _ _, Own.nil _ _, below_alloc (below_alloc (Below.refl _ _) _) _⟩
  · have g1b : ¬ link < 1 := by omega
    clear hn g1
    generalize key.length = n at *
    generalize ps.length = m at *
    go_enter Tryz.func27, Tryz.ntmps27
    go_wp2_with fail
    exact bodyPost_ret (v := .tuple #[.agg #[.slice none 0 0, .slice none 0 0], .int .i64 114]) (by simp [results, Tryz.results27, go_sem]) rfl ⟨_, _, rfl, Own.nil _ _, Own.nil _ _, below_alloc (below_alloc (Below.refl _ _) _) _⟩
  · have g1b : ¬ link < 1 := by omega
    have g2b : ¬ (4294967295 < link) := by omega
    have g3b : ((key.length : Int) != 32) = true := by rw [bne_iff_ne]; omega
    clear hn g1 g2 g3
    generalize key.length = n at *
    generalize ps.length = m at *
    go_enter Tryz.func27, Tryz.ntmps27
    go_wp2_with fail
    exact bodyPost_ret (v := .tuple #[.agg #[.slice none 0 0, .slice none 0 0], .int .i64 114]) (by simp [results, Tryz.results27, go_sem]) rfl ⟨_, _, rfl, Own.nil _ _, Own.nil _ _, below_alloc (below_alloc (Below.refl _ _) _) _⟩
  · have g1b : ¬ link < 1 := by omega
    have g2b : ¬ (4294967295 < link) := by omega
    have g3b : ((key.length : Int) != 32) = false := by rw [bne_eq_false_iff_eq]; omega
    have g4b : (16 : Int) < (ps.length : Int) := by omega
    clear hn g1 g2 g3 g4
    generalize key.length = n at *
    generalize ps.length = m at *
    go_enter Tryz.func27, Tryz.ntmps27
    go_wp2_with fail
    exact bodyPost_ret (v := .tuple #[.agg #[.slice none 0 0, .slice none 0 0], .int .i64 114]) (by simp [results, Tryz.results27, go_sem]) rfl ⟨_, _, rfl, Own.nil _ _, Own.nil _ _, below_alloc (below_alloc (Below.refl _ _) _) _⟩
  · exact absurd h hn
end Go.Proofs.YtafdhccdjbfepaaGreat.Peer
/- The walk of PutPeer where the head is good. -/
namespace Go.Proofs.YtafdhccdjbfepaaGreat.Peer
open Go.RowKit Go.Proofs.YtafdhccdjbfepaaGreat.K Go.Proofs.YtafdhccdjbfepaaGreat.Help Go.Proofs.YtafdhccdjbfepaaGreat.Pfx
set_option linter.unusedVariables false

theorem take_flat {l : List PfxI} {k : Nat} (h : k < l.length) : (l.take (k + 1)).flatMap pfI = (l.take k).flatMap pfI ++ pfI (l.getD k zP) := by
  rw [List.take_add_one, List.flatMap_append]
  simp [h]
theorem pfI_len (x : PfxI) : (pfI x).length ≤ 18 := by
  unfold pfI pfBytes
  split
  · have := (paBytes_len (fam := x.1) (hi := x.2.1) (lo := x.2.2.1)).2
    simp
    omega
  · simp
theorem flat_len (l : List PfxI) : (l.flatMap pfI).length ≤ 18 * l.length := by
  induction l with
  | nil => simp
  | cons x r ih => have := pfI_len x; simp at *; omega
/-- a round's memory: the element's box X, the value so far, the prefixes -/
structure PR (w W : World) (cs : Array Value) (X : Nat) (x : PfxI) (v : Value) (L : List UInt8) (B : Option Addr) (b : Nat) (l : List PfxI) : Prop where
  h : PeS 47 w W (.slice none 0 0) (.slice none 0 0) cs
  bx : W.heap[X]? = some (.cells #[.int .i64 x.1, .int .u64 (x.2.1 : Int), .int .u64 (x.2.2.1 : Int), .int .i64 x.2.2.2] 110 (0, 0))
  o : Own W (w.heap.size + 2) v L
  p : Ps W B b l
  hX : w.heap.size + 1 < X
section
variable {w W W2 : World} {cs : Array Value} {X : Nat} {x : PfxI} {v : Value} {L : List UInt8} {B : Option Addr} {b : Nat} {l : List PfxI}
theorem PeS.fill {t : TypeId} {x y : Value} (h : PeS t w W x y cs) (u z : Value) :
    Hid ((W.setCell ⟨w.heap.size + 1, 0, none⟩ u).cell? ⟨w.heap.size + 1, 0, none⟩ = some u ∧ ((W.setCell ⟨w.heap.size + 1, 0, none⟩ u).setCell ⟨w.heap.size + 1, 1, none⟩ z).cell? ⟨w.heap.size + 1, 1, none⟩ = some z
      ∧ Below w.heap.size w ((W.setCell ⟨w.heap.size + 1, 0, none⟩ u).setCell ⟨w.heap.size + 1, 1, none⟩ z)) :=
  ⟨blk_cell (blk_set h.r 0 u) 0, blk_cell (blk_set (blk_set h.r 0 u) 1 z) 1, (h.below.setCell (p := ⟨w.heap.size + 1, 0, none⟩) (by simp) _).setCell (p := ⟨w.heap.size + 1, 1, none⟩) (by simp) _⟩
theorem PR.step (h : PR w W cs X x v L B b l) (hb : Below W.heap.size W W2) : PR w W2 cs X x v L B b l :=
  ⟨h.h.step hb, (hb.block _ (blk_lt h.bx)).trans h.bx, h.o.below hb, h.p.below hb, h.hX⟩
theorem PR.drewN (h : PR w W cs X x v L B b l) (n : Nat) : PR w (W.drewN n) cs X x v L B b l := ⟨h.h.drewN n, h.bx, h.o.drewN n, h.p.drewN n, h.hX⟩
theorem PR.start (h : PeS 47 w W (.slice none 0 0) (.slice none 0 0) cs) (o : Own W (w.heap.size + 2) v L) (p : Ps W B b l) (x : PfxI) :
    PR w (W.alloc (.cells #[.int .i64 x.1, .int .u64 (x.2.1 : Int), .int .u64 (x.2.2.1 : Int), .int .i64 x.2.2.2] 110)) cs W.heap.size x v L B b l :=
  ⟨h.step (below_alloc (Below.refl _ _) _), blk_new _ _, o.below (below_alloc (Below.refl _ _) _), p.below (below_alloc (Below.refl _ _) _), h.lt⟩
end
set_option maxRecDepth 100000 in
set_option maxHeartbeats 2000000 in
theorem putPeer_body (A B : Option Addr) (a b : Nat) (d : PeerD) (w : World) (hs : Bs w A a d.key) (hp : Ps w B b d.ps) (hh : headOk d) :
    Calls Tryz.prog 27 #[peerV A a B b d] w (RowRet w (putPeer d).1 (putPeer d).2.1 (putPeer d).2.2) := by
  have PB := Lib.hid (fun h : ¬ peerOk d => putPeer_bad h)
  have PO := Lib.hid (fun h : peerOk d => putPeer_ok h)
  have PK := Lib.hid (show okTo d.ps d.ps.length → peerOk d from fun h => ⟨hh, h⟩)
  have PN := Lib.hid (show ¬ okTo d.ps d.ps.length → ¬ peerOk d from fun h h2 => h h2.2)
  generalize putPeer d = pp at *
  obtain ⟨link, key, ps⟩ := d
  unfold peerV
  obtain ⟨h1, h2, h3, h4⟩ := hh
  dsimp only at *
  obtain ⟨lk, rfl⟩ : ∃ n : Nat, link = n := ⟨link.toNat, by omega⟩
  have g1b : ¬ (lk : Int) < 1 := by omega
  have g2b : ¬ (4294967295 < (lk : Int)) := by omega
  have g3b : ((key.length : Int) != 32) = false := by rw [bne_eq_false_iff_eq]; omega
  have g4b : ¬ (16 : Int) < (ps.length : Int) := by omega
  have hw8 : IntKind.u8.wrap (ps.length : Int) = ps.length := by rw [IntKind.wrap_u8]; omega
  have hw32 : IntKind.u32.wrap (lk : Int) = lk := by rw [IntKind.wrap_u32]; omega
  have H0 := Lib.hid (PeS.start 47 w (.slice none 0 0) (.slice none 0 0) #[.int .i64 (lk : Int), .slice A key.length a, .slice B ps.length b])
  have P1 := Lib.hid (fun W h => Bits.put_uint8 A a key ps.length W h (by omega) (by omega))
  have HS := Lib.hid hs
  have HP := Lib.hid hp
  have HKL := Lib.hid (show (key ++ be 1 ps.length).length = 33 by simp [be_len]; omega)
  have hbm := hp.max
  have hbl := hp.le
  clear hs hp
  generalize hn : key.length = n at *
  generalize hm : ps.length = m at *
  have HN := Lib.hid hn
  have HM := Lib.hid hm
  clear hn hm
  subst h3
  clear g3b
  go_enter Tryz.func27, Tryz.ntmps27
  go_wp2_with fail
  refine (P1.out _ (H0.out.bs HS.out)).mono ?_
  rintro e w1 ⟨v1, rfl, o1, hb1⟩
  have H1 := Lib.hid (H0.out.step hb1)
  have O1 := Lib.hid (o1.mono (b' := w.heap.size + 2) (by have := H0.out.lt; omega))
  have s2 : w1.cell? ⟨w.heap.size, 2, none⟩ = some (.slice B m b) := H1.out.cell 2
  clear hb1 o1
  obtain ⟨A1, c1, rfl, -⟩ := O1.out.bs
  rw [HKL.out]
  go_wp2_with fail
  go_loopg [38, 4] m (fun gk i v wr => ∃ k : Nat, k ≤ m ∧ gk = m - k ∧ i = .int .i64 (k : Int) ∧ Own wr (w.heap.size + 2) v (key ++ be 1 m ++ (ps.take k).flatMap pfI) ∧ PeS 47 w wr (.slice none 0 0) (.slice none 0 0) #[.int .i64 (lk : Int), .slice A 32 a, .slice B m b] ∧ Hid (okTo ps k))
  case atStart => exact ⟨0, by omega, rfl, rfl, by have h := O1.out; rw [HKL.out] at h; simpa using h, H1.out, fun i hi => by omega⟩
  case round =>
    obtain ⟨k, hk, rfl, rfl, ho, hS, HK⟩ := hrel
    obtain ⟨A2, c2, rfl, -⟩ := ho.bs
    have HO := Lib.hid ho
    have HSS := Lib.hid hS
    by_cases hlt : k < m
    · have hlt2 : (k : Int) < m := by omega
      have hk0 : (0 : Int) ≤ (k : Int) := by omega
      obtain ⟨bk, off, rfl, hbk, e0, e1, e2, e3⟩ := (hS.ps HP.out).at_ k (by rw [HM.out]; exact hlt)
      have HB := Lib.hid hbk
      have hx := HP.out.lt (ps.getD k zP) (by rw [List.getD_eq_getElem?_getD, List.getElem?_eq_getElem (by rw [HM.out]; exact hlt)]; simp)
      obtain ⟨⟨fam, hi, lo, bits⟩, hxx⟩ : ∃ x : PfxI, ps.getD k zP = x := ⟨_, rfl⟩
      have R0 := Lib.hid (PR.start hS ho (hS.ps HP.out) (fam, hi, lo, bits))
      have HXX := Lib.hid hxx
      rw [hxx] at e0 e1 e2 e3 hx
      dsimp only at e0 e1 e2 e3 hx R0
      have hfl := flat_len (ps.take k)
      have htk : (ps.take k).length ≤ 16 := by rw [List.length_take]; omega
      have HL : Hid ((key ++ be 1 m ++ (ps.take k).flatMap pfI).length ≤ 33 + 18 * 16) := by
        rw [Hid, List.length_append, HKL.out]; omega
      generalize hLL : key ++ be 1 m ++ (ps.take k).flatMap pfI = L at *
      have HLL := Lib.hid hLL
      clear ho hS hxx hLL hfl htk
      have V := Lib.hid (fun W => valid_any fam hi lo bits W hx.1 hx.2)
      have U := Lib.hid (fun W => put_any fam hi lo bits W hx.1 hx.2)
      generalize hpv : pvB fam hi lo bits = pv at *
      have HPV := Lib.hid hpv
      clear hpv
      go_wp2_with fail
      obtain ⟨G, hGd⟩ : ∃ G : World → Prop, G = (fun W => PR w W #[.int .i64 (lk : Int), .slice A 32 a, .slice (some ⟨bk, off, none⟩) m b] wr.heap.size (fam, hi, lo, bits) (.slice A2 L.length c2) L (some ⟨bk, off, none⟩) b ps) := ⟨_, rfl⟩
      have hG0 : G ((wr.alloc (.cells #[.int .i64 fam, .int .u64 (hi : Int), .int .u64 (lo : Int), .int .i64 bits] 110)).drewN 1) := by rw [hGd]; exact R0.out.drewN 1
      have hGi : ∀ W, G W → PR w W #[.int .i64 (lk : Int), .slice A 32 a, .slice (some ⟨bk, off, none⟩) m b] wr.heap.size (fam, hi, lo, bits) (.slice A2 L.length c2) L (some ⟨bk, off, none⟩) b ps := by rw [hGd]; exact fun _ h => h
      have t2 : ∀ p : Cls G, p.W.cell? ⟨w.heap.size, 2, none⟩ = some (.slice (some ⟨bk, off, none⟩) m b) := fun p => (hGi _ p.ok).h.cell 2
      have b0 : ∀ p : Cls G, p.W.cell? ⟨wr.heap.size, 0, none⟩ = some (.int .i64 fam) := fun p => blk_cell (hGi _ p.ok).bx 0
      have b1 : ∀ p : Cls G, p.W.cell? ⟨wr.heap.size, 1, none⟩ = some (.int .u64 (hi : Int)) := fun p => blk_cell (hGi _ p.ok).bx 1
      have b2 : ∀ p : Cls G, p.W.cell? ⟨wr.heap.size, 2, none⟩ = some (.int .u64 (lo : Int)) := fun p => blk_cell (hGi _ p.ok).bx 2
      have b3 : ∀ p : Cls G, p.W.cell? ⟨wr.heap.size, 3, none⟩ = some (.int .i64 bits) := fun p => blk_cell (hGi _ p.ok).bx 3
      have GS := Lib.hid (show ∀ W W' : World, G W → Below W.heap.size W W' → G W' by rw [hGd]; exact fun _ _ h hb => h.step hb)
      have GI := Lib.hid hGi
      have hne : Nonempty (Cls G) := ⟨⟨_, hG0⟩⟩
      have HG0 := Lib.hid hG0
      clear hGd hG0 hGi
      cases pv
      · have HNO : Hid (¬ okTo ps m) := fun h => by
          have h5 := h k hlt
          unfold okAt pvI at h5
          rw [HXX.out, HPV.out] at h5
          cases h5
        refine wp_region_quiet_cls G (by kernel_rfl) (by kernel_rfl) HG0.out ?_
        repeat (go_big_quiet_step ((go_at_call 61; exact calls_cls GS.out (V.out _))))
        refine wpQuiet_nil ?_
        intro _ hw'
        obtain ⟨nq, hw''⟩ := hw'
        subst hw''
        have Q := GI.out _ nq.ok
        have r0 : nq.W.cell? ⟨w.heap.size + 1, 0, none⟩ = some (.slice none 0 0) := Q.h.rcell 0
        have r1 : nq.W.cell? ⟨w.heap.size + 1, 1, none⟩ = some (.slice none 0 0) := Q.h.rcell 1
        have z0 := Q.h.free 0
        have z1 := Q.h.free 1
        have ZZ := Q.h.fill (.slice none 0 0) (.slice none 0 0)
        have JJ := Lib.hid (And.intro ZZ.out.1 ZZ.out.2.1)
        have HF := Lib.hid ZZ.out.2.2
        clear Q ZZ
        go_wp2_with fail
        rw [PB.out (PN.out HNO.out)]
        exact bodyPost_ret (v := .tuple #[.agg #[.slice none 0 0, .slice none 0 0], .int .i64 114]) (by simp [results, Tryz.results27, go_sem, JJ.out.1, JJ.out.2]) rfl ⟨_, _, rfl, Own.nil _ _, Own.nil _ _, HF.out⟩
      · have HPL : Hid (0 < (pfBytes fam hi lo bits).length ∧ (pfBytes fam hi lo bits).length ≤ 18) := by
          have h5 := pfI_len (fam, hi, lo, bits)
          refine ⟨?_, h5⟩
          unfold pfBytes
          rw [HPV.out, if_pos rfl]
          simp
        generalize hpb : pfBytes fam hi lo bits = pb at *
        have HPB := Lib.hid hpb
        obtain ⟨pb1, pb2⟩ := HPL.out
        clear hpb
        by_cases hk1 : k = 0
        · have HK1 : Hid (okTo ps (k + 1)) := fun i hi => by
            rcases Nat.lt_or_ge i k with h5 | h5
            · exact HK.out i h5
            · obtain rfl : i = k := by omega
              unfold okAt pvI
              rw [HXX.out, HPV.out, hk1]
              rfl
          have hkz : ¬ (0 : Int) < (k : Int) := by omega
          refine wp_region_quiet_cls G (by kernel_rfl) (by kernel_rfl) HG0.out ?_
          repeat (go_big_quiet_step ((go_at_call 61; exact calls_cls GS.out (V.out _))))
          refine wpQuiet_nil ?_
          intro _ hw'
          obtain ⟨nq, hw''⟩ := hw'
          subst hw''
          have Q := Lib.hid (GI.out _ nq.ok)
          have b0 := b0 nq
          have b1 := b1 nq
          have b2 := b2 nq
          have b3 := b3 nq
          clear t2
          go_wp2_with fail
          refine (U.out _).mono ?_
          rintro e w2 ⟨v2, rfl, o2, hb2⟩
          obtain ⟨A3, c3, rfl, s3⟩ := o2.bs
          have Q2 := Lib.hid (Q.out.step hb2)
          have S3 := Lib.hid s3
          clear o2 hb2 s3
          go_wp2_with (at_builtin; refine push_many (B := w.heap.size + 2) rfl (.tmp 62) (.tmp 64) rfl (.slice A2 L.length c2) L pb A3 c3 rfl rfl Q2.out.o S3.out (by omega) (Below.refl _ _) (by have := Q2.out.h.lt; omega) (by have := HL.out; omega) ?_; intro A4 c4 w3 o3 _ k3; have H3 := Lib.hid (Q2.out.h.only k3 (fun i hi => by have := Q2.out.o.base_le hi; omega)); have O3 := Lib.hid o3; clear o3 k3)
          go_roundg (m - (k + 1))
          case measure => omega
          case rel =>
            refine ⟨k + 1, by omega, rfl, by go_num, ?_, H3.out, HK1.out⟩
            have e2 : L ++ pb = key ++ be 1 m ++ (ps.take (k + 1)).flatMap pfI := by
              rw [take_flat (by rw [HM.out]; exact hlt), HXX.out, ← List.append_assoc, HLL.out, ← HPB.out]
              rfl
            have h := O3.out
            rw [List.length_append] at h
            rw [← e2]
            exact h
        · obtain ⟨j, hj⟩ : ∃ j, k = j + 1 := ⟨k - 1, by omega⟩
          have hkp : (0 : Int) < (k : Int) := by omega
          have hkn : 0 < k := by omega
          have hjm : (j : Int) < (m : Int) := by omega
          have hjw : IntKind.i64.wrap ((k : Int) - 1) = (j : Int) := by rw [IntWalk.i64_in _ (by omega)]; omega
          obtain ⟨⟨fam', hi', lo', bits'⟩, hyy⟩ : ∃ y : PfxI, ps.getD (k - 1) zP = y := ⟨_, rfl⟩
          have HYY := Lib.hid hyy
          have E' : Hid (∀ p : Cls G, p.W.cell? ⟨bk, off + j * 4, none⟩ = some (.int .i64 fam') ∧ p.W.cell? ⟨bk, off + j * 4 + 1, none⟩ = some (.int .u64 (hi' : Int)) ∧ p.W.cell? ⟨bk, off + j * 4 + 2, none⟩ = some (.int .u64 (lo' : Int)) ∧ p.W.cell? ⟨bk, off + j * 4 + 3, none⟩ = some (.int .i64 bits')) := fun p => by
            obtain ⟨bk2, off2, he, -, f0, f1, f2, f3⟩ := (GI.out _ p.ok).p.at_ (k - 1) (by rw [HM.out]; omega)
            rw [hyy] at f0 f1 f2 f3
            obtain ⟨rfl, rfl⟩ : bk = bk2 ∧ off = off2 := by simpa using he
            rw [show k - 1 = j by omega] at f0 f1 f2 f3
            exact ⟨f0, f1, f2, f3⟩
          have y0 := fun p => (E'.out p).1
          have y1 := fun p => (E'.out p).2.1
          have y2 := fun p => (E'.out p).2.2.1
          have y3 := fun p => (E'.out p).2.2.2
          have C := Lib.hid (fun W => compare_any fam' hi' lo' bits' fam hi lo bits W)
          have CQ : Hid (cmpI (ps.getD (k - 1) zP) (ps.getD k zP) = cmpP fam' hi' lo' bits' fam hi lo bits) := by rw [Hid, HYY.out, HXX.out]; rfl
          generalize cmpP fam' hi' lo' bits' fam hi lo bits = q at *
          have HJ := Lib.hid hj
          clear hyy E' hj
          by_cases hq : q < 0
          · have hq2 : ¬ (0 : Int) ≤ q := by omega
            have HK1 : Hid (okTo ps (k + 1)) := fun i hi => by
              rcases Nat.lt_or_ge i k with h5 | h5
              · exact HK.out i h5
              · obtain rfl : i = k := by omega
                unfold okAt pvI
                rw [CQ.out, HXX.out, HPV.out]
                simp [hq]
            refine wp_region_quiet_cls G (by kernel_rfl) (by kernel_rfl) HG0.out ?_
            repeat (go_big_quiet_step (first | (go_at_call 61; exact calls_cls GS.out (V.out _)) | (go_at_call 62; exact calls_cls GS.out (C.out _))))
            refine wpQuiet_nil ?_
            intro _ hw'
            obtain ⟨nq, hw''⟩ := hw'
            subst hw''
            have Q := Lib.hid (GI.out _ nq.ok)
            have b0 := b0 nq
            have b1 := b1 nq
            have b2 := b2 nq
            have b3 := b3 nq
            clear t2
            go_wp2_with fail
            refine (U.out _).mono ?_
            rintro e w2 ⟨v2, rfl, o2, hb2⟩
            obtain ⟨A3, c3, rfl, s3⟩ := o2.bs
            have Q2 := Lib.hid (Q.out.step hb2)
            have S3 := Lib.hid s3
            clear o2 hb2 s3
            go_wp2_with (at_builtin; refine push_many (B := w.heap.size + 2) rfl (.tmp 62) (.tmp 64) rfl (.slice A2 L.length c2) L pb A3 c3 rfl rfl Q2.out.o S3.out (by omega) (Below.refl _ _) (by have := Q2.out.h.lt; omega) (by have := HL.out; omega) ?_; intro A4 c4 w3 o3 _ k3; have H3 := Lib.hid (Q2.out.h.only k3 (fun i hi => by have := Q2.out.o.base_le hi; omega)); have O3 := Lib.hid o3; clear o3 k3)
            go_roundg (m - (k + 1))
            case measure => omega
            case rel =>
              refine ⟨k + 1, by omega, rfl, by go_num, ?_, H3.out, HK1.out⟩
              have e2 : L ++ pb = key ++ be 1 m ++ (ps.take (k + 1)).flatMap pfI := by
                rw [take_flat (by rw [HM.out]; exact hlt), HXX.out, ← List.append_assoc, HLL.out, ← HPB.out]
                rfl
              have h := O3.out
              rw [List.length_append] at h
              rw [← e2]
              exact h
          · have hq2 : (0 : Int) ≤ q := by omega
            have HNO : Hid (¬ okTo ps m) := fun h => by
              have h5 := h k hlt
              unfold okAt pvI at h5
              rw [CQ.out, HXX.out, HPV.out] at h5
              simp [hq, hk1] at h5
            refine wp_region_quiet_cls G (by kernel_rfl) (by kernel_rfl) HG0.out ?_
            repeat (go_big_quiet_step (first | (go_at_call 61; exact calls_cls GS.out (V.out _)) | (go_at_call 62; exact calls_cls GS.out (C.out _))))
            refine wpQuiet_nil ?_
            intro _ hw'
            obtain ⟨nq, hw''⟩ := hw'
            subst hw''
            have Q := GI.out _ nq.ok
            have r0 : nq.W.cell? ⟨w.heap.size + 1, 0, none⟩ = some (.slice none 0 0) := Q.h.rcell 0
            have r1 : nq.W.cell? ⟨w.heap.size + 1, 1, none⟩ = some (.slice none 0 0) := Q.h.rcell 1
            have z0 := Q.h.free 0
            have z1 := Q.h.free 1
            have ZZ := Q.h.fill (.slice none 0 0) (.slice none 0 0)
            have JJ := Lib.hid (And.intro ZZ.out.1 ZZ.out.2.1)
            have HF := Lib.hid ZZ.out.2.2
            clear Q ZZ
            go_wp2_with fail
            rw [PB.out (PN.out HNO.out)]
            exact bodyPost_ret (v := .tuple #[.agg #[.slice none 0 0, .slice none 0 0], .int .i64 114]) (by simp [results, Tryz.results27, go_sem, JJ.out.1, JJ.out.2]) rfl ⟨_, _, rfl, Own.nil _ _, Own.nil _ _, HF.out⟩
    · obtain rfl : k = m := by omega
      have PP := Lib.hid (PO.out (PK.out HK.out))
      have s0 : wr.cell? ⟨w.heap.size, 0, none⟩ = some (.int .i64 (lk : Int)) := hS.cell 0
      have hltw := hS.lt
      have s0a : (wr.alloc (.cells #[.int .u8 80] 5)).cell? ⟨w.heap.size, 0, none⟩ = some (.int .i64 (lk : Int)) := (hS.step (below_alloc (Below.refl _ _) _)).cell 0
      have hne1 : ¬ w.heap.size = wr.heap.size := by omega
      have hne2 : ¬ wr.heap.size = w.heap.size := by omega
      have OW : Own (wr.alloc (.cells #[.int .u8 80] 5)) wr.heap.size (.slice (some ⟨wr.heap.size, 0, none⟩) 1 1) [80] := Blk.own (l := [80]) (blk_new wr (.cells #[.int .u8 80] 5)) (Nat.le_refl _) (by decide)
      have BB : Hid (Bs (wr.alloc (.cells #[.int .u8 80] 5)) (some ⟨wr.heap.size, 0, none⟩) 1 [80]) := by
        obtain ⟨A5, c5, e5, h5⟩ := OW.bs
        injection e5 with e6 e7 e8
        rw [← e6, ← e8] at h5
        exact h5
      have P4 := Lib.hid (fun W h => Bits.put_uint32 (some ⟨wr.heap.size, 0, none⟩) 1 [80] lk W h (by decide) (by omega))
      have LK : Hid (([80] ++ be 4 lk).length = 5) := by rw [Hid, List.length_append, be_len]; rfl
      have e4 : (lk : Int).toNat = lk := by omega
      rw [e4] at PP
      generalize hK4 : [80] ++ be 4 lk = K4 at *
      generalize hLL : key ++ be 1 k ++ (ps.take k).flatMap pfI = L at *
      have HLL : Hid (key ++ be 1 k ++ ps.flatMap pfI = L) := by
        rw [Hid, ← hLL, List.take_of_length_le (by rw [HM.out]; omega)]
      clear ho hS OW e4 hK4 hLL
      go_wp2_with fail
      refine (P4.out _ BB.out).mono ?_
      rintro e w4 ⟨v4, rfl, o4, hb4⟩
      obtain ⟨A4, c4, rfl, -⟩ := o4.bs
      have hb5 := (below_alloc (Below.refl wr.heap.size wr) (.cells #[.int .u8 80] 5)).trans (hb4.mono (by simp))
      have h4 := HSS.out.step hb5
      have q4 := HO.out.below hb5
      have o5 := o4.mono (b' := w.heap.size + 2) (by have := HSS.out.lt; simp; omega)
      have r0 : w4.cell? ⟨w.heap.size + 1, 0, none⟩ = some (.slice none 0 0) := h4.rcell 0
      have r1 : w4.cell? ⟨w.heap.size + 1, 1, none⟩ = some (.slice none 0 0) := h4.rcell 1
      have z0 := h4.free 0
      have z1 := h4.free 1
      have ZZ := h4.fill (.slice A4 K4.length c4) (.slice A2 L.length c2)
      have JJ := Lib.hid (And.intro ZZ.out.1 ZZ.out.2.1)
      have HF := Lib.hid ZZ.out.2.2
      have ko : Only w4 ((w4.setCell ⟨w.heap.size + 1, 0, none⟩ (.slice A4 K4.length c4)).setCell ⟨w.heap.size + 1, 1, none⟩ (.slice A2 L.length c2)) (fun i => i = w.heap.size + 1) :=
        ((Only.refl w4 (fun i => i = w.heap.size + 1)).setCell (p := ⟨w.heap.size + 1, 0, none⟩) (.inl rfl) _).setCell (p := ⟨w.heap.size + 1, 1, none⟩) (.inl rfl) _
      have F1 := Lib.hid ((o5.only ko (fun i hi e => by have := o5.base_le hi; omega)).mono (b' := w.heap.size) (by omega))
      have F2 := Lib.hid ((q4.only ko (fun i hi e => by have := q4.base_le hi; omega)).mono (b' := w.heap.size) (by omega))
      clear hb5 hb4 h4 q4 o5 o4 ZZ ko
      go_wp2_with fail
      rw [PP.out, HLL.out]
      exact bodyPost_ret (v := .tuple #[.agg #[.slice A4 K4.length c4, .slice A2 L.length c2], .int .i64 0]) (by simp [results, Tryz.results27, go_sem, JJ.out.1, JJ.out.2]) rfl ⟨_, _, rfl, F1.out, F2.out, HF.out⟩
theorem putPeer_any (A B : Option Addr) (a b : Nat) (d : PeerD) (w : World) (hs : Bs w A a d.key) (hp : Ps w B b d.ps) :
    Calls Tryz.prog 27 #[peerV A a B b d] w (RowRet w (putPeer d).1 (putPeer d).2.1 (putPeer d).2.2) := by
  by_cases hh : headOk d
  · exact putPeer_body A B a b d w hs hp hh
  · rw [putPeer_bad (fun h => hh h.1)]
    exact putPeer_head A B a b d w hs.max hh
end Go.Proofs.YtafdhccdjbfepaaGreat.Peer
/- The walk of the document's peerOK. -/
namespace Go.Proofs.YtafdhccdjbfepaaGreat.Peer
open Go.RowKit Go.Proofs.YtafdhccdjbfepaaGreat.K Go.Proofs.YtafdhccdjbfepaaGreat.Help Go.Proofs.YtafdhccdjbfepaaGreat.Pfx
set_option linter.unusedVariables false

set_option maxRecDepth 100000 in
set_option maxHeartbeats 1000000 in
theorem peerOK_head (A B : Option Addr) (a b : Nat) (d : PeerD) (w : World) (hk : d.key.length ≤ 140737488355328) (hn : ¬ headOk d) :
    Calls Tryz.prog 64 #[peerV A a B b d] w (Pure w (.bool false)) := by
  obtain ⟨link, key, ps⟩ := d
  unfold peerV
  have hcs := head_cases ⟨link, key, ps⟩
  have H0 := Lib.hid (Box.start 36 w #[.int .i64 link, .slice A key.length a, .slice B ps.length b])
  dsimp only at *
  rcases hcs with ⟨g1, -⟩ | ⟨g1, g2, -⟩ | ⟨g1, g2, g3, -⟩ | ⟨g1, g2, g3, g4, -⟩ | h
  · clear hn
    generalize key.length = n at *
    generalize ps.length = m at *
    go_enter Tryz.func64, Tryz.ntmps64
    go_wp2_with fail
    go_ret
    exact ⟨rfl, H0.out.below⟩
  · have g1b : ¬ link < 1 := by omega
    clear hn g1
    generalize key.length = n at *
    generalize ps.length = m at *
    go_enter Tryz.func64, Tryz.ntmps64
    go_wp2_with fail
    go_ret
    exact ⟨rfl, H0.out.below⟩
  · have g1b : ¬ link < 1 := by omega
    have g2b : ¬ (4294967295 < link) := by omega
    have g3b : ((key.length : Int) != 32) = true := by rw [bne_iff_ne]; omega
    clear hn g1 g2 g3
    generalize key.length = n at *
    generalize ps.length = m at *
    go_enter Tryz.func64, Tryz.ntmps64
    go_wp2_with fail
    go_ret
    exact ⟨rfl, H0.out.below⟩
  · have g1b : ¬ link < 1 := by omega
    have g2b : ¬ (4294967295 < link) := by omega
    have g3b : ((key.length : Int) != 32) = false := by rw [bne_eq_false_iff_eq]; omega
    have g4b : (16 : Int) < (ps.length : Int) := by omega
    clear hn g1 g2 g3 g4
    generalize key.length = n at *
    generalize ps.length = m at *
    go_enter Tryz.func64, Tryz.ntmps64
    go_wp2_with fail
    go_ret
    exact ⟨rfl, H0.out.below⟩
  · exact absurd h hn
end Go.Proofs.YtafdhccdjbfepaaGreat.Peer
/- The walk of the document's peerOK: the loop. -/
namespace Go.Proofs.YtafdhccdjbfepaaGreat.Peer
open Go.RowKit Go.Proofs.YtafdhccdjbfepaaGreat.K Go.Proofs.YtafdhccdjbfepaaGreat.Help Go.Proofs.YtafdhccdjbfepaaGreat.Pfx
set_option linter.unusedVariables false

set_option maxRecDepth 100000 in
set_option maxHeartbeats 2000000 in
theorem peerOK_body (A B : Option Addr) (a b : Nat) (d : PeerD) (w : World) (hp : Ps w B b d.ps) (hh : headOk d) (r : Bool) (hr : r = true ↔ okTo d.ps d.ps.length) :
    Calls Tryz.prog 64 #[peerV A a B b d] w (Pure w (.bool r)) := by
  obtain ⟨link, key, ps⟩ := d
  unfold peerV
  obtain ⟨h1, h2, h3, h4⟩ := hh
  dsimp only at *
  have g1b : ¬ link < 1 := by omega
  have g2b : ¬ (4294967295 < link) := by omega
  have g4b : ¬ (16 : Int) < (ps.length : Int) := by omega
  have H0 := Lib.hid (Box.start 36 w #[.int .i64 link, .slice A key.length a, .slice B ps.length b])
  have HP := Lib.hid hp
  have HR := Lib.hid hr
  have hbl := hp.le
  clear hp hr
  generalize hn : key.length = n at *
  generalize hm : ps.length = m at *
  have HM := Lib.hid hm
  clear hn hm
  subst h3
  have s2 : (w.alloc (.cells #[.int .i64 link, .slice A 32 a, .slice B m b] 36)).cell? ⟨w.heap.size, 2, none⟩ = some (.slice B m b) := H0.out.cell 2
  go_enter Tryz.func64, Tryz.ntmps64
  go_wp2_with fail
  go_loopg [3] m (fun gk i wr => ∃ k : Nat, k ≤ m ∧ gk = m - k ∧ i = .int .i64 (k : Int) ∧ Box 36 w wr #[.int .i64 link, .slice A 32 a, .slice B m b] ∧ Hid (okTo ps k))
  case atStart => exact ⟨0, by omega, rfl, rfl, H0.out, fun i hi => by omega⟩
  case round =>
    obtain ⟨k, hk, rfl, rfl, hS, HK⟩ := hrel
    have HSS := Lib.hid hS
    have c2 : wr.cell? ⟨w.heap.size, 2, none⟩ = some (.slice B m b) := hS.cell 2
    by_cases hlt : k < m
    · have hlt2 : (k : Int) < m := by omega
      have hk0 : (0 : Int) ≤ (k : Int) := by omega
      obtain ⟨bk, off, rfl, hbk, e0, e1, e2, e3⟩ := (HP.out.below hS.below).at_ k (by rw [HM.out]; exact hlt)
      have HB := Lib.hid hbk
      have hx := HP.out.lt (ps.getD k zP) (by rw [List.getD_eq_getElem?_getD, List.getElem?_eq_getElem (by rw [HM.out]; exact hlt)]; simp)
      obtain ⟨⟨fam, hi, lo, bits⟩, hxx⟩ : ∃ x : PfxI, ps.getD k zP = x := ⟨_, rfl⟩
      have HXX := Lib.hid hxx
      rw [hxx] at e0 e1 e2 e3 hx
      dsimp only at e0 e1 e2 e3 hx
      have V := Lib.hid (fun W => refValid_any fam hi lo bits W hx.1 hx.2)
      generalize hpv : pvB fam hi lo bits = pv at *
      have HPV := Lib.hid hpv
      clear hpv hS hxx
      go_wp2_with fail
      refine (V.out _).mono ?_
      rintro e w1 ⟨rfl, hb1⟩
      have H1 := Lib.hid (HSS.out.step hb1)
      clear hb1
      cases pv
      · have HNO : Hid (r = false) := by
          cases hr : r
          · rfl
          · have h5 := HR.out.1 hr k hlt
            unfold okAt pvI at h5
            rw [HXX.out, HPV.out] at h5
            cases h5
        go_wp2_with fail
        go_ret
        exact ⟨ret_bool HNO.out.symm, H1.out.below⟩
      · by_cases hk1 : k = 0
        · have HK1 : Hid (okTo ps (k + 1)) := fun i hi => by
            rcases Nat.lt_or_ge i k with h5 | h5
            · exact HK.out i h5
            · obtain rfl : i = k := by omega
              unfold okAt pvI
              rw [HXX.out, HPV.out, hk1]
              rfl
          have hkz : ¬ (0 : Int) < (k : Int) := by omega
          go_wp2_with fail
          go_quiet (fail)
          go_wp2_with fail
          go_roundg (m - (k + 1))
          case measure => omega
          case rel => exact ⟨k + 1, by omega, rfl, by go_num, by first | exact H1.out.drewN _ | exact H1.out, HK1.out⟩
        · obtain ⟨j, hj⟩ : ∃ j, k = j + 1 := ⟨k - 1, by omega⟩
          have hkp : (0 : Int) < (k : Int) := by omega
          have hkn : 0 < k := by omega
          have hjm : (j : Int) < (m : Int) := by omega
          have hjw : IntKind.i64.wrap ((k : Int) - 1) = (j : Int) := by rw [IntWalk.i64_in _ (by omega)]; omega
          obtain ⟨⟨fam', hi', lo', bits'⟩, hyy⟩ : ∃ y : PfxI, ps.getD (k - 1) zP = y := ⟨_, rfl⟩
          have HYY := Lib.hid hyy
          obtain ⟨G, hGd⟩ : ∃ G : World → Prop, G = (fun W => Box 36 w W #[.int .i64 link, .slice A 32 a, .slice (some ⟨bk, off, none⟩) m b]) := ⟨_, rfl⟩
          have hG0 : G (w1.drewN 1) := by rw [hGd]; exact H1.out.drewN 1
          have hGi : ∀ W, G W → Box 36 w W #[.int .i64 link, .slice A 32 a, .slice (some ⟨bk, off, none⟩) m b] := by rw [hGd]; exact fun _ h => h
          have t2 : ∀ p : Cls G, p.W.cell? ⟨w.heap.size, 2, none⟩ = some (.slice (some ⟨bk, off, none⟩) m b) := fun p => (hGi _ p.ok).cell 2
          have E' : Hid (∀ p : Cls G, p.W.cell? ⟨bk, off + j * 4, none⟩ = some (.int .i64 fam') ∧ p.W.cell? ⟨bk, off + j * 4 + 1, none⟩ = some (.int .u64 (hi' : Int)) ∧ p.W.cell? ⟨bk, off + j * 4 + 2, none⟩ = some (.int .u64 (lo' : Int)) ∧ p.W.cell? ⟨bk, off + j * 4 + 3, none⟩ = some (.int .i64 bits')) := fun p => by
            obtain ⟨bk2, off2, he, -, f0, f1, f2, f3⟩ := (HP.out.below (hGi _ p.ok).below).at_ (k - 1) (by rw [HM.out]; omega)
            rw [hyy] at f0 f1 f2 f3
            obtain ⟨rfl, rfl⟩ : bk = bk2 ∧ off = off2 := by simpa using he
            rw [show k - 1 = j by omega] at f0 f1 f2 f3
            exact ⟨f0, f1, f2, f3⟩
          have F' : Hid (∀ p : Cls G, p.W.cell? ⟨bk, off + k * 4, none⟩ = some (.int .i64 fam) ∧ p.W.cell? ⟨bk, off + k * 4 + 1, none⟩ = some (.int .u64 (hi : Int)) ∧ p.W.cell? ⟨bk, off + k * 4 + 2, none⟩ = some (.int .u64 (lo : Int)) ∧ p.W.cell? ⟨bk, off + k * 4 + 3, none⟩ = some (.int .i64 bits)) := fun p => by
            obtain ⟨bk2, off2, he, -, f0, f1, f2, f3⟩ := (HP.out.below (hGi _ p.ok).below).at_ k (by rw [HM.out]; omega)
            rw [HXX.out] at f0 f1 f2 f3
            obtain ⟨rfl, rfl⟩ : bk = bk2 ∧ off = off2 := by simpa using he
            exact ⟨f0, f1, f2, f3⟩
          have y0 := fun p => (E'.out p).1
          have y1 := fun p => (E'.out p).2.1
          have y2 := fun p => (E'.out p).2.2.1
          have y3 := fun p => (E'.out p).2.2.2
          have x0 := fun p => (F'.out p).1
          have x1 := fun p => (F'.out p).2.1
          have x2 := fun p => (F'.out p).2.2.1
          have x3 := fun p => (F'.out p).2.2.2
          have GS := Lib.hid (show ∀ W W' : World, G W → Below W.heap.size W W' → G W' by rw [hGd]; exact fun _ _ h hb => h.step hb)
          have GI := Lib.hid hGi
          have hne : Nonempty (Cls G) := ⟨⟨_, hG0⟩⟩
          have HG0 := Lib.hid hG0
          have C := Lib.hid (fun W => refCompare_any fam' hi' lo' bits' fam hi lo bits W)
          have CQ : Hid (cmpI (ps.getD (k - 1) zP) (ps.getD k zP) = cmpP fam' hi' lo' bits' fam hi lo bits) := by rw [Hid, HYY.out, HXX.out]; rfl
          generalize cmpP fam' hi' lo' bits' fam hi lo bits = q at *
          have HJ := Lib.hid hj
          clear hyy E' F' hj hGd hG0 hGi e0 e1 e2 e3 c2
          by_cases hq : q < 0
          · have hq2 : ¬ (0 : Int) ≤ q := by omega
            have HK1 : Hid (okTo ps (k + 1)) := fun i hi => by
              rcases Nat.lt_or_ge i k with h5 | h5
              · exact HK.out i h5
              · obtain rfl : i = k := by omega
                unfold okAt pvI
                rw [CQ.out, HXX.out, HPV.out]
                simp [hq]
            go_wp2_with fail
            refine wp_region_quiet_cls G (by kernel_rfl) (by kernel_rfl) HG0.out ?_
            repeat (go_big_quiet_step ((go_at_call 108; exact calls_cls GS.out (C.out _))))
            refine wpQuiet_nil ?_
            intro _ hw'
            obtain ⟨nq, hw''⟩ := hw'
            subst hw''
            have Q := Lib.hid (GI.out _ nq.ok)
            go_wp2_with fail
            go_roundg (m - (k + 1))
            case measure => omega
            case rel => exact ⟨k + 1, by omega, rfl, by go_num, Q.out, HK1.out⟩
          · have hq2 : (0 : Int) ≤ q := by omega
            have HNO : Hid (r = false) := by
              cases hr : r
              · rfl
              · have h5 := HR.out.1 hr k hlt
                unfold okAt pvI at h5
                rw [CQ.out, HXX.out, HPV.out] at h5
                simp [hq, hk1] at h5
            go_wp2_with fail
            refine wp_region_quiet_cls G (by kernel_rfl) (by kernel_rfl) HG0.out ?_
            repeat (go_big_quiet_step ((go_at_call 108; exact calls_cls GS.out (C.out _))))
            refine wpQuiet_nil ?_
            intro _ hw'
            obtain ⟨nq, hw''⟩ := hw'
            subst hw''
            have Q := Lib.hid (GI.out _ nq.ok)
            go_wp2_with fail
            go_ret
            exact ⟨ret_bool HNO.out.symm, Q.out.below⟩
    · obtain rfl : k = m := by omega
      have HYES : Hid (r = true) := HR.out.2 HK.out
      go_wp2_with fail
      go_ret
      exact ⟨ret_bool HYES.out.symm, HSS.out.below⟩
end Go.Proofs.YtafdhccdjbfepaaGreat.Peer
/- The walk of the document's PutPeer. -/
namespace Go.Proofs.YtafdhccdjbfepaaGreat.Peer
open Go.RowKit Go.Proofs.YtafdhccdjbfepaaGreat.K Go.Proofs.YtafdhccdjbfepaaGreat.Help Go.Proofs.YtafdhccdjbfepaaGreat.Pfx
set_option linter.unusedVariables false

theorem peerOK_any (A B : Option Addr) (a b : Nat) (d : PeerD) (w : World) (hk : d.key.length ≤ 140737488355328) (hp : Ps w B b d.ps) (r : Bool) (hr : r = true ↔ peerOk d) :
    Calls Tryz.prog 64 #[peerV A a B b d] w (Pure w (.bool r)) := by
  by_cases hh : headOk d
  · exact peerOK_body A B a b d w hp hh r ⟨fun h => (hr.1 h).2, fun h => hr.2 ⟨hh, h⟩⟩
  · have : r = false := by
      cases r
      · rfl
      · exact absurd (hr.1 rfl).1 hh
    rw [this]
    exact peerOK_head A B a b d w hk hh
set_option maxRecDepth 100000 in
set_option maxHeartbeats 1000000 in
theorem refPutPeer_bad (A B : Option Addr) (a b : Nat) (d : PeerD) (w : World) (hs : Bs w A a d.key) (hp : Ps w B b d.ps) (hn : ¬ peerOk d) :
    Calls Tryz.prog 28 #[peerV A a B b d] w (RowRet w [] [] 114) := by
  have H0 := Lib.hid (PeS.start 47 w (.slice none 0 0) (.slice none 0 0) #[.int .i64 d.link, .slice A d.key.length a, .slice B d.ps.length b])
  have V := Lib.hid (fun W h => peerOK_any A B a b d W hs.max h false ⟨(fun h => by cases h), fun h => absurd h hn⟩)
  unfold peerV at V ⊢
  have HP := Lib.hid hp
  clear hs hp hn
  obtain ⟨link, key, ps⟩ := d
  dsimp only at *
  generalize key.length = n at *
  generalize hm : ps.length = m at *
  clear hm
  go_enter Tryz.func28, Tryz.ntmps28
  go_wp2_with fail
  refine (V.out _ (H0.out.ps HP.out)).mono ?_
  rintro e w1 ⟨rfl, hb1⟩
  have h1 := H0.out.step hb1
  have r0 : w1.cell? ⟨w.heap.size + 1, 0, none⟩ = some (.slice none 0 0) := h1.rcell 0
  have r1 : w1.cell? ⟨w.heap.size + 1, 1, none⟩ = some (.slice none 0 0) := h1.rcell 1
  have z0 := h1.free 0
  have z1 := h1.free 1
  have ZZ := h1.fill (.slice none 0 0) (.slice none 0 0)
  have JJ := Lib.hid (And.intro ZZ.out.1 ZZ.out.2.1)
  have HF := Lib.hid ZZ.out.2.2
  clear h1 ZZ hb1
  go_wp2_with fail
  exact bodyPost_ret (v := .tuple #[.agg #[.slice none 0 0, .slice none 0 0], .int .i64 114]) (by simp [results, Tryz.results28, go_sem, JJ.out.1, JJ.out.2]) rfl ⟨_, _, rfl, Own.nil _ _, Own.nil _ _, HF.out⟩
end Go.Proofs.YtafdhccdjbfepaaGreat.Peer
/- The walk of the document's PutPeer, a good peer. -/
namespace Go.Proofs.YtafdhccdjbfepaaGreat.Peer
open Go.RowKit Go.Proofs.YtafdhccdjbfepaaGreat.K Go.Proofs.YtafdhccdjbfepaaGreat.Help Go.Proofs.YtafdhccdjbfepaaGreat.Pfx
set_option linter.unusedVariables false

theorem own_lt {w : World} {base : Nat} {v : Value} {l : List UInt8} (h : Own w base v l) : ∀ i, v.ownBlock = some i → i < w.heap.size := by
  intro i hi
  rcases h.1.2 with ⟨rfl, _⟩ | ⟨g, cap, cur, rfl, hb, hh, _⟩
  · simp [Value.ownBlock] at hi
  · have : g = i := by simpa [Value.ownBlock] using hi
    rw [← this]
    exact blk_lt hh
theorem blk_bs1 {w : World} {g : Nat} {y : UInt8} (h : Blk w g [y]) : Bs w (some ⟨g, 0, none⟩) 1 [y] := by
  obtain ⟨A5, c5, e5, h5⟩ := (h.own (base := 0) (Nat.zero_le _) (by simp)).bs
  injection e5 with e6 e7 e8
  rw [← e6, ← e8] at h5
  exact h5
set_option maxRecDepth 100000 in
set_option maxHeartbeats 2000000 in
theorem refPutPeer_good (A B : Option Addr) (a b : Nat) (d : PeerD) (w : World) (hs : Bs w A a d.key) (hp : Ps w B b d.ps) (hok : peerOk d) :
    Calls Tryz.prog 28 #[peerV A a B b d] w (RowRet w ([0x50] ++ be 4 d.link.toNat) (d.key ++ be 1 d.ps.length ++ d.ps.flatMap pfI) 0) := by
  have H0 := Lib.hid (PeS.start 47 w (.slice none 0 0) (.slice none 0 0) #[.int .i64 d.link, .slice A d.key.length a, .slice B d.ps.length b])
  have V := Lib.hid (fun W h => peerOK_any A B a b d W hs.max h true ⟨fun _ => hok, fun _ => rfl⟩)
  unfold peerV at V ⊢
  have HP := Lib.hid hp
  have HS := Lib.hid hs
  have hkm := hs.max
  obtain ⟨⟨h1, h2, h3, h4⟩, hto⟩ := hok
  clear hs hp
  obtain ⟨link, key, ps⟩ := d
  dsimp only at *
  have BY := Lib.hid (fun W h => Help.bytes A a key W h)
  have HKL := Lib.hid (show (key ++ be 1 ps.length).length = 33 by simp [be_len]; omega)
  have HOK := Lib.hid hto
  obtain ⟨lk, rfl⟩ : ∃ n : Nat, link = n := ⟨link.toNat, by omega⟩
  have e4 : (lk : Int).toNat = lk := by omega
  rw [e4]
  have hw64 : IntKind.u64.wrap (lk : Int) = lk := by rw [IntKind.wrap_u64]; omega
  have hw8 : IntKind.u8.wrap (ps.length : Int) = ps.length := by rw [IntKind.wrap_u8]; omega
  have HKY := Lib.hid h3
  have HPL := Lib.hid (show (be 4 lk).length = 4 by rw [be_len])
  clear hto e4
  generalize hn : key.length = n at *
  generalize hm : ps.length = m at *
  have HM := Lib.hid hm
  clear hn hm
  subst h3
  go_enter Tryz.func28, Tryz.ntmps28
  go_wp2_with fail
  refine (V.out _ (H0.out.ps HP.out)).mono ?_
  rintro e w1 ⟨rfl, hb1⟩
  have h1' := H0.out.step hb1
  have H1 := Lib.hid h1'
  have s0a : (w1.alloc (.cells #[.int .u8 80] 5)).cell? ⟨w.heap.size, 0, none⟩ = some (.int .i64 (lk : Int)) := (h1'.step (below_alloc (Below.refl _ _) _)).cell 0
  have hltw := h1'.lt
  have hne1 : ¬ w.heap.size = w1.heap.size := by omega
  have hne2 : ¬ w1.heap.size = w.heap.size := by omega
  have OW : Hid (Own (w1.alloc (.cells #[.int .u8 80] 5)) (w.heap.size + 2) (.slice (some ⟨w1.heap.size, 0, none⟩) 1 1) [80]) := (show Blk (w1.alloc (.cells #[.int .u8 80] 5)) w1.heap.size [80] from blk_new _ _).own (by omega) (by decide)
  clear hb1 h1'
  go_wp2_with fail
  refine (Help.number lk 4 _ (by omega) (by omega)).mono ?_
  rintro e w2 ⟨v2, rfl, o2, hb2⟩
  obtain ⟨A2, c2, rfl, s2⟩ := o2.bs
  have H2 := Lib.hid ((H1.out.step (below_alloc (Below.refl _ _) (.cells #[.int .u8 80] 5))).step hb2)
  have OW2 := Lib.hid (OW.out.below hb2)
  have S2 := Lib.hid s2
  generalize hK4 : [80] ++ be 4 lk = K4
  have HK4 := Lib.hid hK4
  generalize be 4 lk = q4 at *
  rw [HPL.out]
  clear o2 hb2 s2 hK4 s0a hne1 hne2 hltw
  go_wp2_with (at_builtin; refine push_many (B := w.heap.size + 2) rfl (.tmp 11) (.tmp 15) rfl (.slice (some ⟨w1.heap.size, 0, none⟩) 1 1) [80] q4 A2 c2 rfl (by rw [HPL.out]; rfl) OW2.out S2.out (by rw [HPL.out]; omega) (Below.refl _ _) (by have := H2.out.lt; omega) (by rw [HPL.out]; decide) ?_; intro A3 c3 w3 o3 _ k3; rw [HK4.out] at o3 ⊢; have H3 := Lib.hid (H2.out.only k3 (fun i hi => by have := OW2.out.base_le hi; omega)); have H3S : Hid (w.heap.size + 1 < w3.heap.size) := Lib.hid H3.out.lt; have Z3 : Hid (∀ i, (Value.slice A3 K4.length c3).ownBlock = some i → i < w3.heap.size) := Lib.hid (own_lt o3); have O3 := Lib.hid o3; clear o3 k3)
  have HKY2 : Hid (key.length = 32) := by have h := HKL.out; rw [List.length_append, be_len] at h; rw [Hid]; omega
  have e2 : ((UInt8.ofNat m).toNat : Int) = m := by simp; omega
  have BL : Hid (∀ W : World, Blk (W.alloc (.cells #[.int .u8 (m : Int)] 5)) W.heap.size [UInt8.ofNat m]) := by
    intro W
    have hc : (#[.int .u8 (m : Int)] : Array Value) = (u8s [UInt8.ofNat m]).toArray := by
      unfold u8s u8
      rw [List.map_cons, List.map_nil, e2]
    have h := blk_new W (.cells #[.int .u8 (m : Int)] 5)
    unfold Blk
    rw [← hc]
    exact h
  have hbe : be 1 m = [UInt8.ofNat m] := by simp [be]
  have HBE := Lib.hid hbe
  clear e2 hbe
  go_cut [5] (fun s wx => ∃ A5 c5, s = .slice A5 33 c5 ∧ Own wx w3.heap.size (.slice A5 33 c5) (key ++ be 1 m) ∧ PeS 47 w wx (.slice none 0 0) (.slice none 0 0) #[.int .i64 (lk : Int), .slice A 32 a, .slice B m b] ∧ Own wx (w.heap.size + 2) (.slice A3 K4.length c3) K4 ∧ w3.heap.size ≤ wx.heap.size)
  case first =>
    obtain ⟨KM, hKM⟩ : ∃ KM, key ++ [UInt8.ofNat m] = KM := ⟨_, rfl⟩
    have HKM := Lib.hid hKM
    have HKML : Hid (KM.length = 33) := by have h := HKL.out; rw [HBE.out, hKM] at h; exact h
    clear hKM
    have s1 : w3.cell? ⟨w.heap.size, 1, none⟩ = some (.slice A 32 a) := H3.out.cell 1
    have s2 : w3.cell? ⟨w.heap.size, 2, none⟩ = some (.slice B m b) := H3.out.cell 2
    go_region_held3 (fun w' => w'.cell? ⟨w.heap.size, 1, none⟩ = some (.slice A 32 a) ∧ w'.cell? ⟨w.heap.size, 2, none⟩ = some (.slice B m b)) (first | go_keep | exact ⟨d1, d2⟩ | exact ⟨f1, f2⟩)
      (first
      | ((refine step_push (B := w3.heap.size) (by rfl) _ _ (by rfl) (.slice A5 32 c5) key [UInt8.ofNat m] (some ⟨w3.heap.size, 0, none⟩) 1 (by rfl) (by rfl) O5.out SA.out (by simp) SZ5.out (by rw [HKY2.out]; simp) ?_
          intro A6 c6 w6 o6 k6
          rw [HKM.out] at o6 ⊢
          rw [HKML.out] at o6 ⊢
          have h6 := H5.out.only k6 (fun i hi => by have := O5.out.base_le hi; have := H3S.out; omega)
          have f1 : w6.cell? ⟨w.heap.size, 1, none⟩ = some (.slice A 32 a) := h6.cell 1
          have f2 : w6.cell? ⟨w.heap.size, 2, none⟩ = some (.slice B m b) := h6.cell 2
          have K6 := Lib.hid (K5.out.only k6 (fun i hi e => by have := O5.out.base_le e; have := Z3.out i hi; omega))
          have S6 := Lib.hid (Nat.le_trans SZ5.out k6.size)
          have H6 := Lib.hid h6
          have O6 := Lib.hid o6
          clear h6 o6 k6))
      | ((refine step_push (B := w3.heap.size) (by rfl) _ _ (by rfl) (.slice A5 32 c5) key [UInt8.ofNat m] (some ⟨w5.heap.size, 0, none⟩) 1 (by rfl) (by rfl) (by first | exact O5.out.below (below_alloc (Below.refl _ _) _) | exact (O5.out.below (below_alloc (Below.refl _ _) _)).drewN 1) (by first | exact SB.out | exact SB.out.drewN 1) (by simp) (by have := SZ5.out; simp; omega) (by rw [HKY2.out]; simp) ?_
          intro A6 c6 w6 o6 k6
          rw [HKM.out] at o6 ⊢
          rw [HKML.out] at o6 ⊢
          have h6 : PeS 47 w w6 (.slice none 0 0) (.slice none 0 0) #[.int .i64 (lk : Int), .slice A 32 a, .slice B m b] := (H5.out.step (below_alloc (Below.refl _ _) (.cells #[.int .u8 (m : Int)] 5))).only k6 (fun i hi => by have := O5.out.base_le hi; have := H3S.out; omega)
          have f1 : w6.cell? ⟨w.heap.size, 1, none⟩ = some (.slice A 32 a) := h6.cell 1
          have f2 : w6.cell? ⟨w.heap.size, 2, none⟩ = some (.slice B m b) := h6.cell 2
          have K6 := Lib.hid ((K5.out.below (below_alloc (Below.refl _ _) (.cells #[.int .u8 (m : Int)] 5))).only k6 (fun i hi e => by have := O5.out.base_le e; have := Z3.out i hi; omega))
          have S6 : Hid (w3.heap.size ≤ w6.heap.size) := Lib.hid (Nat.le_trans (by have := SZ5.out; simp; omega) k6.size)
          have H6 := Lib.hid h6
          have O6 := Lib.hid o6
          clear h6 o6 k6))
      | (go_at_call 47; refine (BY.out _ (by first | exact H3.out.bs HS.out | exact (H3.out.bs HS.out).drewN 1 | exact (H3.out.bs HS.out).below (below_alloc (Below.refl _ _) _) | exact ((H3.out.bs HS.out).below (below_alloc (Below.refl _ _) _)).drewN 1)).mono ?_; rintro e w5 ⟨v5, rfl, o5, hb5⟩; obtain ⟨A5, c5, rfl, -⟩ := o5.bs; rw [HKY2.out] at o5 ⊢
         have h5 : PeS 47 w w5 (.slice none 0 0) (.slice none 0 0) #[.int .i64 (lk : Int), .slice A 32 a, .slice B m b] := (by first | exact H3.out.step hb5 | exact (H3.out.drewN 1).step hb5 | exact (H3.out.step (below_alloc (Below.refl _ _) _)).step hb5 | exact ((H3.out.step (below_alloc (Below.refl _ _) _)).drewN 1).step hb5)
         have d1 : w5.cell? ⟨w.heap.size, 1, none⟩ = some (.slice A 32 a) := h5.cell 1
         have d2 : w5.cell? ⟨w.heap.size, 2, none⟩ = some (.slice B m b) := h5.cell 2
         have K5 : Hid (Own w5 (w.heap.size + 2) (.slice A3 K4.length c3) K4) := (by first | exact O3.out.below hb5 | exact (O3.out.drewN 1).below hb5 | exact (O3.out.below (below_alloc (Below.refl _ _) _)).below hb5 | exact ((O3.out.below (below_alloc (Below.refl _ _) _)).drewN 1).below hb5)
         have SZ5 : Hid (w3.heap.size ≤ w5.heap.size) := Lib.hid (Nat.le_trans (by simp) hb5.size)
         have O5 : Hid (Own w5 w3.heap.size (.slice A5 32 c5) key) := Lib.hid (o5.mono (by simp))
         have H5 := Lib.hid h5
         have SB : Hid (Bs (w5.alloc (.cells #[.int .u8 (m : Int)] 5)) (some ⟨w5.heap.size, 0, none⟩) 1 [UInt8.ofNat m]) := Lib.hid (blk_bs1 (BL.out w5))
         (try (have SA : Hid (Bs w5 (some ⟨w3.heap.size, 0, none⟩) 1 [UInt8.ofNat m]) := Lib.hid (by first | exact (blk_bs1 (BL.out w3)).below hb5 | exact ((blk_bs1 (BL.out w3)).drewN 1).below hb5)))
         clear h5 o5 hb5))
    all_goals
      go_wp2_with fail
      go_meet
      exact ⟨_, _, rfl, by have h := O6.out; rw [← HKM.out, ← HBE.out] at h; exact h, H6.out, K6.out, S6.out⟩
  case rest =>
    obtain ⟨A5, c5, rfl, o5, h5, k5, hsz⟩ := hcut
    have HS0 := Lib.hid hsz
    clear hsz
    have H5 := Lib.hid h5
    have O5 := Lib.hid o5
    have K5 := Lib.hid k5
    clear o5 h5 k5
    go_wp2_with fail
    go_loopg [6, 5] m (fun gk i v wr => ∃ k : Nat, k ≤ m ∧ gk = m - k ∧ i = .int .i64 (k : Int) ∧ Own wr w3.heap.size v (key ++ be 1 m ++ (ps.take k).flatMap pfI) ∧ PeS 47 w wr (.slice none 0 0) (.slice none 0 0) #[.int .i64 (lk : Int), .slice A 32 a, .slice B m b] ∧ Own wr (w.heap.size + 2) (.slice A3 K4.length c3) K4 ∧ Hid (w3.heap.size ≤ wr.heap.size))
    case atStart => exact ⟨0, by omega, rfl, rfl, by simpa using O5.out, H5.out, K5.out, HS0⟩
    case round =>
      obtain ⟨k, hk, rfl, rfl, ho, hS, hq, HSR⟩ := hrel
      obtain ⟨A6, c6, rfl, -⟩ := ho.bs
      have c2 : wr.cell? ⟨w.heap.size, 2, none⟩ = some (.slice B m b) := hS.cell 2
      have HO := Lib.hid ho
      have HSS := Lib.hid hS
      have HQ := Lib.hid hq
      by_cases hlt : k < m
      · have hlt2 : (k : Int) < m := by omega
        have hk0 : (0 : Int) ≤ (k : Int) := by omega
        obtain ⟨bk, off, rfl, hbk, e0, e1, e2, e3⟩ := (hS.ps HP.out).at_ k (by rw [HM.out]; exact hlt)
        have hx := HP.out.lt (ps.getD k zP) (by rw [List.getD_eq_getElem?_getD, List.getElem?_eq_getElem (by rw [HM.out]; exact hlt)]; simp)
        obtain ⟨⟨fam, hi, lo, bits⟩, hxx⟩ : ∃ x : PfxI, ps.getD k zP = x := ⟨_, rfl⟩
        have HXX := Lib.hid hxx
        rw [hxx] at e0 e1 e2 e3 hx
        dsimp only at e0 e1 e2 e3 hx
        have hpv : pvB fam hi lo bits = true := by
          have h5 := HOK.out k hlt
          unfold okAt pvI at h5
          rw [hxx] at h5
          simp at h5
          exact h5.1
        have HPL : Hid (0 < (pfBytes fam hi lo bits).length ∧ (pfBytes fam hi lo bits).length ≤ 18) := by
          have h5 := pfI_len (fam, hi, lo, bits)
          refine ⟨?_, h5⟩
          unfold pfBytes
          rw [hpv, if_pos rfl]
          simp
        have hfl := flat_len (ps.take k)
        have htk : (ps.take k).length ≤ 16 := by rw [List.length_take]; omega
        have HL : Hid ((key ++ be 1 m ++ (ps.take k).flatMap pfI).length ≤ 33 + 18 * 16) := by
          rw [Hid, List.length_append, HKL.out]; omega
        have U := Lib.hid (fun W => refPut_any fam hi lo bits W hx.1 hx.2)
        generalize hLL : key ++ be 1 m ++ (ps.take k).flatMap pfI = L at *
        have HLL := Lib.hid hLL
        generalize hpb : pfBytes fam hi lo bits = pb at *
        have HPB := Lib.hid hpb
        obtain ⟨pb1, pb2⟩ := HPL.out
        clear ho hS hxx hLL hfl htk hpb hpv hq
        go_wp2_with fail
        refine (U.out _).mono ?_
        rintro e w2 ⟨v2, rfl, o2, hb2⟩
        obtain ⟨A7, c7, rfl, s7⟩ := o2.bs
        have Q2 := Lib.hid (HSS.out.step hb2)
        have HS2 := Lib.hid (Nat.le_trans HSR.out hb2.size)
        have O2 := Lib.hid (HO.out.below hb2)
        have K2 := Lib.hid (HQ.out.below hb2)
        have S7 := Lib.hid s7
        clear o2 hb2 s7
        go_wp2_with (at_builtin; refine push_many (B := w3.heap.size) rfl (.tmp 33) (.tmp 39) rfl (.slice A6 L.length c6) L pb A7 c7 rfl rfl O2.out S7.out (by omega) (Below.refl _ _) HS2.out (by have := HL.out; omega) ?_; intro A8 c8 w8 o8 _ k8; have H8 := Lib.hid (Q2.out.only k8 (fun i hi => by have := O2.out.base_le hi; have := H3S.out; omega)); have K8 := Lib.hid (K2.out.only k8 (fun i hi e => by have := O2.out.base_le e; have := Z3.out i hi; omega)); have O8 := Lib.hid o8; have HS8 := Lib.hid (Nat.le_trans HS2.out k8.size); clear o8 k8)
        go_roundg (m - (k + 1))
        case measure => omega
        case rel =>
          refine ⟨k + 1, by omega, rfl, by go_num, ?_, H8.out, K8.out, HS8⟩
          have e2 : L ++ pb = key ++ be 1 m ++ (ps.take (k + 1)).flatMap pfI := by
            rw [take_flat (by rw [HM.out]; exact hlt), HXX.out, ← List.append_assoc, HLL.out, ← HPB.out]
            rfl
          have h := O8.out
          rw [List.length_append] at h
          rw [← e2]
          exact h
      · obtain rfl : k = m := by omega
        have r0 : wr.cell? ⟨w.heap.size + 1, 0, none⟩ = some (.slice none 0 0) := hS.rcell 0
        have r1 : wr.cell? ⟨w.heap.size + 1, 1, none⟩ = some (.slice none 0 0) := hS.rcell 1
        have z0 := hS.free 0
        have z1 := hS.free 1
        generalize hLL : key ++ be 1 k ++ (ps.take k).flatMap pfI = L at *
        have HLL : Hid (key ++ be 1 k ++ ps.flatMap pfI = L) := by
          rw [Hid, ← hLL, List.take_of_length_le (by rw [HM.out]; omega)]
        have ZZ := hS.fill (.slice A3 K4.length c3) (.slice A6 L.length c6)
        have JJ := Lib.hid (And.intro ZZ.out.1 ZZ.out.2.1)
        have HF := Lib.hid ZZ.out.2.2
        have ko : Only wr ((wr.setCell ⟨w.heap.size + 1, 0, none⟩ (.slice A3 K4.length c3)).setCell ⟨w.heap.size + 1, 1, none⟩ (.slice A6 L.length c6)) (fun i => i = w.heap.size + 1) :=
          ((Only.refl wr (fun i => i = w.heap.size + 1)).setCell (p := ⟨w.heap.size + 1, 0, none⟩) (.inl rfl) _).setCell (p := ⟨w.heap.size + 1, 1, none⟩) (.inl rfl) _
        have F1 := Lib.hid ((hq.only ko (fun i hi e => by have := hq.base_le hi; omega)).mono (b' := w.heap.size) (by omega))
        have F2 := Lib.hid ((ho.only ko (fun i hi e => by have := ho.base_le hi; have := H3S.out; omega)).mono (b' := w.heap.size) (by have := H3S.out; omega))
        clear ho hS hq ZZ ko hLL
        go_wp2_with fail
        rw [HLL.out, show (80 :: q4) = K4 from HK4.out]
        exact bodyPost_ret (v := .tuple #[.agg #[.slice A3 K4.length c3, .slice A6 L.length c6], .int .i64 0]) (by simp [results, Tryz.results28, go_sem, JJ.out.1, JJ.out.2]) rfl ⟨_, _, rfl, F1.out, F2.out, HF.out⟩
theorem refPutPeer_any (A B : Option Addr) (a b : Nat) (d : PeerD) (w : World) (hs : Bs w A a d.key) (hp : Ps w B b d.ps) :
    Calls Tryz.prog 28 #[peerV A a B b d] w (RowRet w (putPeer d).1 (putPeer d).2.1 (putPeer d).2.2) := by
  by_cases hok : peerOk d
  · rw [putPeer_ok hok]
    exact refPutPeer_good A B a b d w hs hp hok
  · rw [putPeer_bad hok]
    exact refPutPeer_bad A B a b d w hs hp hok
end Go.Proofs.YtafdhccdjbfepaaGreat.Peer
/- Prefixes of the call's own, and the append of one. -/
namespace Go.Proofs.YtafdhccdjbfepaaGreat.Peer
open Go.RowKit Go.Proofs.YtafdhccdjbfepaaGreat.K Go.Proofs.YtafdhccdjbfepaaGreat.Help Go.Proofs.YtafdhccdjbfepaaGreat.Pfx
set_option linter.unusedVariables false

def pcs (x : PfxI) : List Value := [.int .i64 x.1, .int .u64 (x.2.1 : Int), .int .u64 (x.2.2.1 : Int), .int .i64 x.2.2.2]
def pcells (l : List PfxI) : List Value := l.flatMap pcs
theorem pcells_len (l : List PfxI) : (pcells l).length = l.length * 4 := by
  induction l with
  | nil => rfl
  | cons x r ih => unfold pcells at *; rw [List.flatMap_cons, List.length_append, ih]; simp [pcs]; omega
theorem pcells_at (l : List PfxI) (i j : Nat) (hi : i < l.length) (hj : j < 4) : (pcells l)[i * 4 + j]? = (pcs (l.getD i zP))[j]? := by
  induction l generalizing i with
  | nil => simp at hi
  | cons x r ih =>
    have hx : (pcs x).length = 4 := rfl
    unfold pcells at *
    rw [List.flatMap_cons]
    match i with
    | 0 => rw [List.getElem?_append_left (by omega)]; simp
    | i + 1 =>
      rw [List.getElem?_append_right (by omega), hx, show (i + 1) * 4 + j - 4 = i * 4 + j by omega]
      have := ih i (by simpa using hi)
      rw [this]
      simp
def OwnP (w : World) (base : Nat) (v : Value) (l : List PfxI) : Prop :=
  w.ownsRow base 110 4 v l.length (pcells l) ∧ l.length ≤ 4294967296 ∧ ∀ x, x ∈ l → x.2.1 < 18446744073709551616 ∧ x.2.2.1 < 18446744073709551616
section
variable {w w' : World} {base : Nat} {v : Value} {l : List PfxI}
theorem OwnP.nil (w : World) (base : Nat) : OwnP w base (.slice none 0 0) [] := ⟨⟨by simp [pcells], .inl ⟨rfl, rfl⟩⟩, by simp, fun x hx => absurd hx (by simp)⟩
theorem OwnP.ps (h : OwnP w base v l) : ∃ A c, v = .slice A l.length c ∧ Ps w A c l := by
  have hc := fun (g : Nat) (hg : v.ownBlock = some g) => h.1.cells hg
  rcases h.1.2 with ⟨rfl, h0⟩ | ⟨g, cap, cur, rfl, hb, hh, hn, hm, hs, ht⟩
  · have : l = [] := List.eq_nil_of_length_eq_zero h0
    subst this
    exact ⟨none, 0, rfl, Ps.nil _⟩
  · refine ⟨_, cap, rfl, hn, by simpa [maxLen] using hm, h.2.2, fun i hi => ⟨g, 0, rfl, blk_lt hh, ?_⟩⟩
    have e : ∀ j, (⟨g, 0, none⟩ : Addr).add j = ⟨g, j, none⟩ := fun j => addr_add_plain g j
    have c0 := hc g rfl (i * 4 + 0) _ ((pcells_at l i 0 hi (by omega)).trans rfl)
    have c1 := hc g rfl (i * 4 + 1) _ ((pcells_at l i 1 hi (by omega)).trans rfl)
    have c2 := hc g rfl (i * 4 + 2) _ ((pcells_at l i 2 hi (by omega)).trans rfl)
    have c3 := hc g rfl (i * 4 + 3) _ ((pcells_at l i 3 hi (by omega)).trans rfl)
    rw [e] at c0 c1 c2 c3
    simp only [Nat.zero_add]
    exact ⟨c0, c1, c2, c3⟩
theorem OwnP.below (h : OwnP w base v l) (hb : Below w.heap.size w w') : OwnP w' base v l := by
  refine ⟨⟨h.1.1, ?_⟩, h.2⟩
  rcases h.1.2 with h2 | ⟨g, cap, cur, hv, hg, hh, r⟩
  · exact .inl h2
  · exact .inr ⟨g, cap, cur, hv, hg, (hb.block g (blk_lt hh)).trans hh, r⟩
theorem OwnP.only {T : Nat → Prop} (h : OwnP w base v l) (k : Only w w' T) (hn : ∀ i, v.ownBlock = some i → ¬ T i) : OwnP w' base v l := by
  refine ⟨⟨h.1.1, ?_⟩, h.2⟩
  rcases h.1.2 with h2 | ⟨g, cap, cur, hv, hg, hh, r⟩
  · exact .inl h2
  · exact .inr ⟨g, cap, cur, hv, hg, k.blk hh (hn g (by rw [hv]; rfl)), r⟩
theorem OwnP.drewN (h : OwnP w base v l) (n : Nat) : OwnP (w.drewN n) base v l := h
theorem OwnP.base_le (h : OwnP w base v l) {i : Nat} (hi : v.ownBlock = some i) : base ≤ i := by
  rcases h.1.2 with ⟨rfl, _⟩ | ⟨g, cap, cur, rfl, hb, _⟩
  · simp [Value.ownBlock] at hi
  · have : g = i := by simpa [Value.ownBlock] using hi
    omega
end
theorem info_pfx : (Tryz.prog.info? 110).map (fun i => (i.zero, i.size, i.bytes)) = some (some (.agg #[.int .i64 0, .int .u64 0, .int .u64 0, .int .i64 0]), 4, 32) := by kernel_rfl
theorem pcells_snoc (l : List PfxI) (x : PfxI) : pcells (l ++ [x]) = pcells l ++ pcs x := by unfold pcells; rw [List.flatMap_append]; simp
section
variable {ops : Array Oper} {rest : List Oper} {o : Oper} {a : Act} {Q : Exit → Act → World → Prop}
/-- append(v, x), x laid at block g -/
theorem push_pfx {B : Nat} {W0 W : World} (hgd : o.guard = none) (s xo : Operand)
    (ho : o.op = .call { callee := .builtin .append, args := #[s, xo], argTypes := #[34, 34] })
    (v : Value) (l : List PfxI) (x : PfxI) (g mc : Nat) (hs : a.eval s = v) (hx : a.eval xo = .slice (some ⟨g, 0, none⟩) 1 mc)
    (HO : OwnP W B v l) (HX : W.heap[g]? = some (.cells (pcs x).toArray 110 (0, 0))) (hxb : x.2.1 < 18446744073709551616 ∧ x.2.2.1 < 18446744073709551616) (HB : Below B W0 W) (hBW : B ≤ W.heap.size) (hl : l.length ≤ 100000)
    (h : ∀ A' c' w1, OwnP w1 B (.slice A' (l.length + 1) c') (l ++ [x]) → Below B W0 w1 → Only W w1 (fun k => v.ownBlock = some k) → wpList Tryz.prog ops Q rest (a.put o.dst (.slice A' (l.length + 1) c')) w1) :
    wpList Tryz.prog ops Q (o :: rest) a W := by
  obtain ⟨i0, hi, hzz⟩ := Option.map_eq_some_iff.1 info_pfx
  simp only [Prod.mk.injEq] at hzz
  obtain ⟨hz0, hz1, hz2⟩ := hzz
  refine wpList_append_own_at W hgd s xo _ ho B 110 i0 _ 4 32 Tryz.underlying34 hi hz0 hz1 hz2 rfl (by omega) v l.length (pcells l) hs HO.1 ⟨g, 0, none⟩ 1 mc (pcs x) hx rfl
    ?_ (by intro u hu; simp only [pcs, List.mem_cons, List.not_mem_nil, or_false] at hu; rcases hu with rfl | rfl | rfl | rfl <;> rfl) (by simp only [maxLen]; omega) (by omega) hBW ?_
  · intro j u hu
    rw [addr_add_plain]
    exact (blk_cell HX j).trans (by simpa using hu)
  · intro v1 w1 hown hg _ hat
    have hO : OwnP w1 B v1 (l ++ [x]) := by
      refine ⟨?_, by simp; omega, fun y hy => ?_⟩
      · rw [pcells_snoc]; simpa using hown
      · rcases List.mem_append.1 hy with h1 | h1
        · exact HO.2.2 y h1
        · simp at h1; rw [h1]; exact hxb
    obtain ⟨A', c', e, _⟩ := hO.ps
    rw [List.length_append] at e
    subst e
    exact h A' c' w1 hO (HB.grown hg hBW (fun k hk => HO.base_le hk)) ((Only.refl W (fun k => v.ownBlock = some k)).grown hg (fun k hk => .inl hk))
end
end Go.Proofs.YtafdhccdjbfepaaGreat.Peer
/- The walks of Prefixes, SameAddr, SamePrefix (the same data). -/
namespace Go.Proofs.YtafdhccdjbfepaaGreat.Peer
open Go.RowKit Go.Proofs.YtafdhccdjbfepaaGreat.K Go.Proofs.YtafdhccdjbfepaaGreat.Help Go.Proofs.YtafdhccdjbfepaaGreat.Pfx
set_option linter.unusedVariables false

/-- new memory that holds these prefixes -/
def RetP (w : World) (l : List PfxI) (e : Ending) (w' : World) : Prop := ∃ v, e = .returned v ∧ OwnP w' w.heap.size v l ∧ Below w.heap.size w w'
set_option maxRecDepth 100000 in
set_option maxHeartbeats 1000000 in
theorem prefixes_any (B : Option Addr) (b : Nat) (l : List PfxI) (w : World) (hp : Ps w B b l) (hl : l.length ≤ 100000) :
    Calls Tryz.prog 99 #[.slice B l.length b] w (RetP w l) := by
  have HP := Lib.hid hp
  have hbl := hp.le
  have hbm := hp.max
  clear hp
  generalize hm : l.length = m at *
  have HM := Lib.hid hm
  clear hm
  go_enter Tryz.func99, Tryz.ntmps99
  go_wp2_with fail
  go_loopg [4, 3] m (fun gk i v wr => ∃ k : Nat, k ≤ m ∧ gk = m - k ∧ i = .int .i64 (k : Int) ∧ OwnP wr w.heap.size v (l.take k) ∧ Below w.heap.size w wr)
  case atStart => exact ⟨0, by omega, rfl, rfl, OwnP.nil _ _, Below.refl _ _⟩
  case round =>
    obtain ⟨k, hk, rfl, rfl, ho, hb⟩ := hrel
    obtain ⟨A2, c2, rfl, -⟩ := ho.ps
    have HO := Lib.hid ho
    have HB := Lib.hid hb
    by_cases hlt : k < m
    · have hlt2 : (k : Int) < m := by omega
      have hk0 : (0 : Int) ≤ (k : Int) := by omega
      obtain ⟨bk, off, rfl, hbk, e0, e1, e2, e3⟩ := (HP.out.below hb).at_ k (by rw [HM.out]; exact hlt)
      have hx := HP.out.lt (l.getD k zP) (by rw [List.getD_eq_getElem?_getD, List.getElem?_eq_getElem (by rw [HM.out]; exact hlt)]; simp)
      obtain ⟨⟨fam, hi, lo, bits⟩, hxx⟩ : ∃ x : PfxI, l.getD k zP = x := ⟨_, rfl⟩
      have HT : Hid (l.take (k + 1) = l.take k ++ [(fam, hi, lo, bits)]) := by
        rw [Hid, List.take_add_one, ← hxx]; simp [show k < l.length by rw [HM.out]; exact hlt]
      rw [hxx] at e0 e1 e2 e3 hx
      dsimp only at e0 e1 e2 e3 hx
      have HX := Lib.hid hx
      have hll : (l.take k).length = k := by rw [List.length_take, HM.out]; omega
      rw [hll]
      have OA := Lib.hid (ho.below (below_alloc (Below.refl _ _) (.cells #[.int .i64 fam, .int .u64 (hi : Int), .int .u64 (lo : Int), .int .i64 bits] 110)))
      rw [hll] at OA
      have BX := Lib.hid (blk_new wr (.cells #[.int .i64 fam, .int .u64 (hi : Int), .int .u64 (lo : Int), .int .i64 bits] 110))
      have BA := Lib.hid (below_step hb (below_alloc (Below.refl _ _) (.cells #[.int .i64 fam, .int .u64 (hi : Int), .int .u64 (lo : Int), .int .i64 bits] 110)))
      have HLL := Lib.hid hll
      have hsz := hb.size
      clear ho hb hx hxx hll
      go_wp2_with (at_builtin; refine push_pfx (B := w.heap.size) (W0 := w) rfl (.tmp 11) (.tmp 16) rfl (.slice A2 k c2) (l.take k) (fam, hi, lo, bits) wr.heap.size 1 rfl rfl OA.out BX.out HX.out BA.out (by simp; omega) (by rw [HLL.out]; omega) ?_; intro A3 c3 w3 o3 b3 _; rw [HLL.out] at o3 ⊢; rw [← HT.out] at o3; have O3 := Lib.hid o3; have B3 := Lib.hid b3; clear o3 b3)
      go_roundg (m - (k + 1))
      case measure => omega
      case rel => exact ⟨k + 1, by omega, rfl, by go_num, O3.out, B3.out⟩
    · obtain rfl : k = m := by omega
      have e : l.take k = l := List.take_of_length_le (by rw [HM.out]; omega)
      rw [e] at HO ⊢
      clear ho
      go_wp2_with fail
      go_ret
      exact ⟨_, rfl, HO.out, HB.out⟩
end Go.Proofs.YtafdhccdjbfepaaGreat.Peer
/- The walks of SameAddr, SamePrefix on the same data. -/
namespace Go.Proofs.YtafdhccdjbfepaaGreat.Peer
open Go.RowKit Go.Proofs.YtafdhccdjbfepaaGreat.K Go.Proofs.YtafdhccdjbfepaaGreat.Help Go.Proofs.YtafdhccdjbfepaaGreat.Pfx
set_option linter.unusedVariables false

set_option maxRecDepth 100000 in
set_option maxHeartbeats 1000000 in
theorem sameAddr_self (fam : Int) (hi lo : Nat) (w : World) :
    Calls Tryz.prog 144 #[.agg #[.int .i64 fam, .int .u64 (hi : Int), .int .u64 (lo : Int)], .agg #[.int .i64 fam, .int .u64 (hi : Int), .int .u64 (lo : Int)]] w (Pure w (.bool true)) := by
  go_enter Tryz.func144, Tryz.ntmps144
  go_wp2_with fail
  try go_quiet (fail)
  go_wp2_with fail
  go_ret
  exact ⟨rfl, by first | exact below_alloc (below_alloc (Below.refl _ _) _) _ | exact below_drewN (below_alloc (below_alloc (Below.refl _ _) _) _) _⟩
set_option maxRecDepth 100000 in
set_option maxHeartbeats 1000000 in
theorem samePrefix_self (fam : Int) (hi lo : Nat) (bits : Int) (w : World) :
    Calls Tryz.prog 119 #[.agg #[.int .i64 fam, .int .u64 (hi : Int), .int .u64 (lo : Int), .int .i64 bits], .agg #[.int .i64 fam, .int .u64 (hi : Int), .int .u64 (lo : Int), .int .i64 bits]] w (Pure w (.bool true)) := by
  have V := Lib.hid (fun W => sameAddr_self fam hi lo W)
  have H0 := Lib.hid (TwoC.start 110 110 w #[.int .i64 fam, .int .u64 (hi : Int), .int .u64 (lo : Int), .int .i64 bits] #[.int .i64 fam, .int .u64 (hi : Int), .int .u64 (lo : Int), .int .i64 bits])
  go_enter Tryz.func119, Tryz.ntmps119
  go_wp2_with fail
  refine (V.out _).mono ?_
  rintro e w1 ⟨rfl, hb1⟩
  have a3 : w1.cell? ⟨w.heap.size, 3, none⟩ = some (.int .i64 bits) := (blk_cell ((hb1.block _ (blk_lt H0.out.a)).trans H0.out.a) 3).trans rfl
  have b3 : w1.cell? ⟨w.heap.size + 1, 3, none⟩ = some (.int .i64 bits) := (blk_cell ((hb1.block _ (blk_lt H0.out.b)).trans H0.out.b) 3).trans rfl
  have B1 := Lib.hid (below_step H0.out.below hb1)
  clear hb1
  go_wp2_with fail
  try go_quiet (fail)
  go_wp2_with fail
  go_ret
  exact ⟨rfl, by first | exact B1.out | exact below_drewN B1.out _⟩
end Go.Proofs.YtafdhccdjbfepaaGreat.Peer
/- The walk of SamePrefixes on the same data. -/
namespace Go.Proofs.YtafdhccdjbfepaaGreat.Peer
open Go.RowKit Go.Proofs.YtafdhccdjbfepaaGreat.K Go.Proofs.YtafdhccdjbfepaaGreat.Help Go.Proofs.YtafdhccdjbfepaaGreat.Pfx
set_option linter.unusedVariables false

set_option maxRecDepth 100000 in
set_option maxHeartbeats 1000000 in
theorem samePrefixes_self (B C : Option Addr) (b c : Nat) (l : List PfxI) (w : World) (hp : Ps w B b l) (hq : Ps w C c l) :
    Calls Tryz.prog 92 #[.slice B l.length b, .slice C l.length c] w (Pure w (.bool true)) := by
  have HP := Lib.hid hp
  have HQ := Lib.hid hq
  have hbl := hp.le
  have hbm := hp.max
  clear hp hq
  generalize hm : l.length = m at *
  have HM := Lib.hid hm
  clear hm
  go_enter Tryz.func92, Tryz.ntmps92
  go_wp2_with fail
  go_loopg [5] m (fun gk i wr => ∃ k : Nat, k ≤ m ∧ gk = m - k ∧ i = .int .i64 (k : Int) ∧ Below w.heap.size w wr)
  case atStart => exact ⟨0, by omega, rfl, rfl, Below.refl _ _⟩
  case round =>
    obtain ⟨k, hk, rfl, rfl, hb⟩ := hrel
    have HB := Lib.hid hb
    by_cases hlt : k < m
    · have hlt2 : (k : Int) < m := by omega
      have hk0 : (0 : Int) ≤ (k : Int) := by omega
      obtain ⟨bk, off, rfl, -, -⟩ := HP.out.at_ k (by rw [HM.out]; exact hlt)
      obtain ⟨ck, cff, rfl, -, -⟩ := HQ.out.at_ k (by rw [HM.out]; exact hlt)
      obtain ⟨⟨fam, hi, lo, bits⟩, hxx⟩ : ∃ x : PfxI, l.getD k zP = x := ⟨_, rfl⟩
      have V := Lib.hid (fun W => samePrefix_self fam hi lo bits W)
      obtain ⟨G, hGd⟩ : ∃ G : World → Prop, G = (fun W => Below w.heap.size w W) := ⟨_, rfl⟩
      have hG0 : G (wr.drewN 1) := by rw [hGd]; exact below_drewN hb 1
      have hGi : ∀ W, G W → Below w.heap.size w W := by rw [hGd]; exact fun _ h => h
      have E' : Hid (∀ p : Cls G, p.W.cell? ⟨bk, off + k * 4, none⟩ = some (.int .i64 fam) ∧ p.W.cell? ⟨bk, off + k * 4 + 1, none⟩ = some (.int .u64 (hi : Int)) ∧ p.W.cell? ⟨bk, off + k * 4 + 2, none⟩ = some (.int .u64 (lo : Int)) ∧ p.W.cell? ⟨bk, off + k * 4 + 3, none⟩ = some (.int .i64 bits)) := fun p => by
        obtain ⟨bk2, off2, he, -, f0, f1, f2, f3⟩ := (HP.out.below (hGi _ p.ok)).at_ k (by rw [HM.out]; omega)
        rw [hxx] at f0 f1 f2 f3
        obtain ⟨rfl, rfl⟩ : bk = bk2 ∧ off = off2 := by simpa using he
        exact ⟨f0, f1, f2, f3⟩
      have F' : Hid (∀ p : Cls G, p.W.cell? ⟨ck, cff + k * 4, none⟩ = some (.int .i64 fam) ∧ p.W.cell? ⟨ck, cff + k * 4 + 1, none⟩ = some (.int .u64 (hi : Int)) ∧ p.W.cell? ⟨ck, cff + k * 4 + 2, none⟩ = some (.int .u64 (lo : Int)) ∧ p.W.cell? ⟨ck, cff + k * 4 + 3, none⟩ = some (.int .i64 bits)) := fun p => by
        obtain ⟨bk2, off2, he, -, f0, f1, f2, f3⟩ := (HQ.out.below (hGi _ p.ok)).at_ k (by rw [HM.out]; omega)
        rw [hxx] at f0 f1 f2 f3
        obtain ⟨rfl, rfl⟩ : ck = bk2 ∧ cff = off2 := by simpa using he
        exact ⟨f0, f1, f2, f3⟩
      have y0 := fun p => (E'.out p).1
      have y1 := fun p => (E'.out p).2.1
      have y2 := fun p => (E'.out p).2.2.1
      have y3 := fun p => (E'.out p).2.2.2
      have x0 := fun p => (F'.out p).1
      have x1 := fun p => (F'.out p).2.1
      have x2 := fun p => (F'.out p).2.2.1
      have x3 := fun p => (F'.out p).2.2.2
      have GS := Lib.hid (show ∀ W W' : World, G W → Below W.heap.size W W' → G W' by rw [hGd]; exact fun _ _ h hb => below_step h hb)
      have GI := Lib.hid hGi
      have hne : Nonempty (Cls G) := ⟨⟨_, hG0⟩⟩
      have HG0 := Lib.hid hG0
      clear hGd hG0 hGi E' F' hxx hb
      go_wp2_with fail
      refine wp_region_quiet_cls G (by kernel_rfl) (by kernel_rfl) HG0.out ?_
      repeat (go_big_quiet_step ((go_at_call 119; exact calls_cls GS.out (V.out _))))
      refine wpQuiet_nil ?_
      intro _ hw'
      obtain ⟨nq, hw''⟩ := hw'
      subst hw''
      have Q := Lib.hid (GI.out _ nq.ok)
      go_wp2_with fail
      go_roundg (m - (k + 1))
      case measure => omega
      case rel => exact ⟨k + 1, by omega, rfl, by go_num, Q.out⟩
    · obtain rfl : k = m := by omega
      clear hb
      go_wp2_with fail
      go_ret
      exact ⟨rfl, HB.out⟩
end Go.Proofs.YtafdhccdjbfepaaGreat.Peer
/- The walk of SamePeer on the same data. -/
namespace Go.Proofs.YtafdhccdjbfepaaGreat.Peer
open Go.RowKit Go.Proofs.YtafdhccdjbfepaaGreat.K Go.Proofs.YtafdhccdjbfepaaGreat.Help Go.Proofs.YtafdhccdjbfepaaGreat.Pfx
set_option linter.unusedVariables false

theorem twoC_step {t1 t2 : TypeId} {w w' w2 : World} {x y : Array Value} (h : TwoC t1 t2 w w' x y) (hb : Below w'.heap.size w' w2) : TwoC t1 t2 w w2 x y :=
  ⟨(hb.block _ (blk_lt h.a)).trans h.a, (hb.block _ (blk_lt h.b)).trans h.b, below_step h.below hb⟩
set_option maxRecDepth 100000 in
set_option maxHeartbeats 1000000 in
theorem samePeer_self (A B C D : Option Addr) (a b c e : Nat) (d : PeerD) (w : World) (h1 : Bs w A a d.key) (h2 : Bs w C c d.key) (p1 : Ps w B b d.ps) (p2 : Ps w D e d.ps) :
    Calls Tryz.prog 53 #[peerV A a B b d, peerV C c D e d] w (Pure w (.bool true)) := by
  obtain ⟨link, key, ps⟩ := d
  unfold peerV
  dsimp only at *
  have H0 := Lib.hid (TwoC.start 36 36 w #[.int .i64 link, .slice A key.length a, .slice B ps.length b] #[.int .i64 link, .slice C key.length c, .slice D ps.length e])
  have T1 := Lib.hid (fun W h k => sameBytes A C a c key key W h k)
  rw [show decide (key = key) = true from decide_eq_true rfl] at T1
  have T2 := Lib.hid (fun W h k => samePrefixes_self B D b e ps W h k)
  have HS := Lib.hid (And.intro h1 h2)
  have HP := Lib.hid (And.intro p1 p2)
  clear h1 h2 p1 p2
  generalize key.length = n at *
  generalize ps.length = m at *
  go_enter Tryz.func53, Tryz.ntmps53
  go_wp2_with fail
  refine (T1.out _ (HS.out.1.below H0.out.below) (HS.out.2.below H0.out.below)).mono ?_
  rintro e1 w1 ⟨k, rfl, rfl⟩
  have h1 := H0.out.drewN k
  have a2 := (blk_cell h1.a 2).trans (b := some (Value.slice B m b)) rfl
  have b2 := (blk_cell h1.b 2).trans (b := some (Value.slice D m e)) rfl
  have H1 := Lib.hid h1
  clear h1
  go_wp2_with fail
  refine (T2.out _ (HP.out.1.below H1.out.below) (HP.out.2.below H1.out.below)).mono ?_
  rintro e1 w2 ⟨rfl, hb2⟩
  have h2 := twoC_step H1.out hb2
  have a0 := (blk_cell h2.a 0).trans (b := some (Value.int .i64 link)) rfl
  have b0 := (blk_cell h2.b 0).trans (b := some (Value.int .i64 link)) rfl
  have H2 := Lib.hid h2
  clear h2 hb2
  go_wp2_with fail
  try go_quiet (fail)
  go_wp2_with fail
  go_ret
  exact ⟨rfl, by first | exact H2.out.below | exact below_drewN H2.out.below _⟩
end Go.Proofs.YtafdhccdjbfepaaGreat.Peer
/- What a row says of a peer, plain; the peer's box while its prefixes are read. -/
namespace Go.Proofs.YtafdhccdjbfepaaGreat.Peer
open Go.RowKit Go.Proofs.YtafdhccdjbfepaaGreat.K Go.Proofs.YtafdhccdjbfepaaGreat.Help Go.Proofs.YtafdhccdjbfepaaGreat.Pfx
set_option linter.unusedVariables false

def toI (d : PfxD) : PfxI := (d.1, d.2.1, d.2.2.1, (d.2.2.2 : Int))
/-- n prefixes one behind the other, and what is left -/
def getN : Nat → List UInt8 → Option (List PfxI × List UInt8)
  | 0, l => some ([], l)
  | n + 1, l => match getN n l with
    | none => none
    | some p => if (pfxGet p.2).2.2 = 0 then some (p.1 ++ [toI (pfxGet p.2).1], p.2.drop (pfxGet p.2).2.1) else none
theorem getN_step {n : Nat} {l r : List UInt8} {ps : List PfxI} {d : PfxD} {m : Nat} (h : getN n l = some (ps, r)) (hg : pfxGet r = (d, m, 0)) : getN (n + 1) l = some (ps ++ [toI d], r.drop m) := by
  simp only [getN, h, hg, if_true]
theorem getN_stop {n : Nat} {l r : List UInt8} {ps : List PfxI} {d : PfxD} {m : Nat} {e : Int} (h : getN n l = some (ps, r)) (hg : pfxGet r = (d, m, e)) (he : e ≠ 0) : getN (n + 1) l = none := by
  simp only [getN, h, hg, if_neg he]
theorem getN_none {n m : Nat} {l : List UInt8} (h : getN n l = none) (hm : n ≤ m) : getN m l = none := by
  induction m with
  | zero => have : n = 0 := by omega
            subst this; exact h
  | succ m ih =>
    by_cases e : n = m + 1
    · rw [← e]; exact h
    · simp only [getN, ih (by omega)]
theorem pw_cases (x : Int) : pw x / 8 = 0 ∨ pw x / 8 = 4 ∨ pw x / 8 = 16 := by
  unfold pw
  split
  · exact .inr (.inl rfl)
  · split
    · exact .inr (.inr rfl)
    · exact .inl rfl
/-- what Get tells of a prefix is within bounds -/
theorem pfxGet_b (l : List UInt8) : (pfxGet l).1.2.1 < 18446744073709551616 ∧ (pfxGet l).1.2.2.1 < 18446744073709551616 ∧ ((pfxGet l).2.2 = 0 → 6 ≤ (pfxGet l).2.1 ∧ (pfxGet l).2.1 ≤ l.length) ∧ (pfxGet l).2.1 ≤ 18 := by
  unfold pfxGet
  have hc := pw_cases ((l.getD 0 0).toNat : Int)
  generalize pw ((l.getD 0 0).toNat : Int) / 8 = n at *
  split
  · exact ⟨by simp, by simp, fun h => by simp at h, by simp⟩
  · split
    · exact ⟨by simp, by simp, fun h => by simp at h, by simp⟩
    · rename_i h1 h2
      split
      · refine ⟨?_, Nat.mod_lt _ (by decide), fun _ => ⟨?_, ?_⟩, ?_⟩
        · have : val ((l.drop 2).take n) < 256 ^ 16 := val_pow (by rw [List.length_take]; omega)
          have e : (256 : Nat) ^ 16 = 18446744073709551616 * 18446744073709551616 := by decide
          rw [e] at this
          exact Nat.div_lt_of_lt_mul this
        · dsimp only; omega
        · dsimp only; omega
        · dsimp only; omega
      · exact ⟨by simp, by simp, fun h => by simp at h, by simp⟩
theorem getN_len {n : Nat} : ∀ {l r : List UInt8} {ps : List PfxI}, getN n l = some (ps, r) → ps.length = n := by
  induction n with
  | zero => intro l r ps h; simp only [getN, Option.some.injEq, Prod.mk.injEq] at h; rw [← h.1]; rfl
  | succ n ih =>
    intro l r ps h
    simp only [getN] at h
    split at h
    · cases h
    · rename_i p hp
      obtain ⟨qs, q⟩ := p
      split at h
      · simp only [Option.some.injEq, Prod.mk.injEq] at h
        rw [← h.1, List.length_append, ih hp]; rfl
      · cases h
theorem getN_lt {n : Nat} : ∀ {l r : List UInt8} {ps : List PfxI}, getN n l = some (ps, r) → ∀ x, x ∈ ps → x.2.1 < 18446744073709551616 ∧ x.2.2.1 < 18446744073709551616 := by
  induction n with
  | zero => intro l r ps h; simp only [getN, Option.some.injEq, Prod.mk.injEq] at h; rw [← h.1]; intro x hx; cases hx
  | succ n ih =>
    intro l r ps h
    simp only [getN] at h
    split at h
    · cases h
    · rename_i p hp
      obtain ⟨qs, q⟩ := p
      split at h
      · simp only [Option.some.injEq, Prod.mk.injEq] at h
        rw [← h.1]
        intro x hx
        rcases List.mem_append.1 hx with h1 | h1
        · exact ih hp x h1
        · simp at h1; rw [h1]; have := pfxGet_b q; exact ⟨this.1, this.2.1⟩
      · cases h
def zeroPeer : PeerD := ⟨0, [], []⟩
/-- the rest of a peer's value: so many prefixes -/
def peerOf (link : Nat) (key : List UInt8) (n : Nat) (rest : List UInt8) : PeerD :=
  match getN n rest with
  | none => zeroPeer
  | some p => ⟨link, key, p.1⟩
/-- what the readers tell -/
def peerRd (k v : List UInt8) : PeerD :=
  let t0 := takes k 0 1 0
  let t1 := takes k t0.2.2.1 4 t0.2.2.2
  let u0 := takes v 0 32 0
  let u1 := takes v u0.2.2.1 1 u0.2.2.2
  let u2 := takes v u1.2.2.1 (Help.Left v u1.2.2.1 u1.2.2.2) u1.2.2.2
  peerOf (val t1.1) u0.1 (val u1.1) u2.1
/-- s[n:] of a slice of bytes, whatever its capacity -/
theorem bs_cut (A : Option Addr) (c : Nat) (l : List UInt8) (n : Nat) (hn : n ≤ l.length) :
    ∃ A' : Option Addr, (∀ W : World, (Instr.slice 33 (.slice A l.length c) (some (.int .i64 (n : Int))) none none).run Tryz.prog W = .ok (.slice A' (l.length - n) (c - n)) W) ∧ ∀ w, Bs w A c l → Bs w A' (c - n) (l.drop n) := by
  refine ⟨if c = n then A else A.map (·.add n), fun W => ?_, fun w h => ?_⟩
  · obtain ⟨i0, hi, hz⟩ := Option.map_eq_some_iff.1 info_u8
    simp only [Prod.mk.injEq] at hz
    have hel : Tryz.prog.elem 33 = 5 := by simp [Program.elem, Tryz.underlying33]
    have hu : Tryz.prog.underlying 33 = some (.slice (Tryz.prog.elem 33)) := by rw [hel]; exact Tryz.underlying33
    rw [run_slice_l W 33 A l.length c hu .i64 (n : Int) (Int.natCast_nonneg _) (by omega), hel]
    simp [sizeOf, typeInfo, hi, hz.2.1, sliced, Result.andThen]
  · have hle := h.le
    refine ⟨by rw [List.length_drop]; omega, by rw [List.length_drop]; have := h.max; omega, fun i hi => ?_⟩
    rw [List.length_drop] at hi
    obtain ⟨ad, e, hlt, hc⟩ := h.at_ (n + i) (by omega)
    rw [if_neg (by omega)]
    subst e
    refine ⟨ad.add n, rfl, by rw [addr_add_block]; exact hlt, ?_⟩
    have e2 : (ad.add n).add i = ad.add (n + i) := by unfold Addr.add; by_cases hi : n = 0 <;> by_cases hj : i = 0 <;> simp [hi, hj, Nat.add_assoc]
    rw [e2, hc]
    congr 3
    simp
/-- a peer's cells -/
def peC (link : Int) (A : Option Addr) (n c : Nat) (pv : Value) : Array Value := #[.int .i64 link, .slice A n c, pv]
/-- the peer's box at block N while its prefixes grow, since world W0 -/
structure PLoop (W0 W : World) (N : Nat) (link : Int) (A : Option Addr) (n c : Nat) (pv : Value) (ps : List PfxI) : Prop where
  b : W.heap[N]? = some (.cells (peC link A n c pv) 36 (0, 0))
  own : OwnP W W0.heap.size pv ps
  on : Only W0 W (fun i => i = N)
  hN : N < W0.heap.size
section
variable {W0 W w1 : World} {N : Nat} {link : Int} {A : Option Addr} {n c : Nat} {pv : Value} {ps : List PfxI}
theorem PLoop.below (h : PLoop W0 W N link A n c pv ps) (hb : Below W.heap.size W w1) : PLoop W0 w1 N link A n c pv ps :=
  ⟨(hb.block _ (blk_lt h.b)).trans h.b, h.own.below hb, h.on.then_ (Only.of_below hb (fun _ => False)) (fun i hi => hi.elim), h.hN⟩
theorem PLoop.drewN (h : PLoop W0 W N link A n c pv ps) (m : Nat) : PLoop W0 (W.drewN m) N link A n c pv ps := ⟨h.b, h.own, h.on.drewN m, h.hN⟩
theorem PLoop.c2 (h : PLoop W0 W N link A n c pv ps) : W.cell? ⟨N, 2, none⟩ = some pv := (blk_cell h.b 2).trans rfl
theorem PLoop.grow {pv' : Value} {ps' : List PfxI} (h : PLoop W0 W N link A n c pv ps) (ho : OwnP w1 W0.heap.size pv' ps') (k : Only W w1 (fun i => pv.ownBlock = some i)) :
    w1.cell? ⟨N, 2, none⟩ = some pv ∧ w1.frozen? ⟨N, 2, none⟩ = false ∧ PLoop W0 (w1.setCell ⟨N, 2, none⟩ pv') N link A n c pv' ps' := by
  have hne : ∀ i, pv.ownBlock = some i → i ≠ N := fun i hi e => by have := h.own.base_le hi; have := h.hN; omega
  have hb : w1.heap[N]? = some (.cells (peC link A n c pv) 36 (0, 0)) := k.blk h.b (fun h2 => hne N h2 rfl)
  have o : Only w1 (w1.setCell ⟨N, 2, none⟩ pv') (fun i => i = N) := (Only.refl w1 (fun i => i = N)).setCell (p := ⟨N, 2, none⟩) (.inl rfl) pv'
  refine ⟨(blk_cell hb 2).trans rfl, blk_free hb 2, blk_set hb 2 pv', ho.only o (fun i hi e => ?_), (h.on.then_ k (fun i hi => .inr (h.own.base_le hi))).then_ o (fun i hi => .inl hi), h.hN⟩
  have := ho.base_le hi; have := h.hN; omega
end
theorem OwnP.nw {w w' : World} {A : Option Addr} {n c : Nat} {l : List PfxI} {base : Nat} (h : OwnP w' base (.slice A n c) l) (hb : w.heap.size ≤ base) : Nw w A := fun ad e => by
  subst e
  rcases h.1.2 with ⟨h1, _⟩ | ⟨g, cap, cur, h1, h2, _⟩
  · cases h1
  · injection h1 with h1; injection h1 with h1; subst h1; exact Nat.le_trans hb h2
/-- a peer is answered; what the readers at gk, gv are is left open -/
def PeerR (w : World) (gk gv rv : Nat) (d : PeerD) (e : Ending) (w' : World) : Prop := ∃ A a B b, e = .returned (peerV A a B b d) ∧ Bs w' A a d.key ∧ Ps w' B b d.ps ∧ Only w w' (fun i => i = gk ∨ i = gv) ∧ At A rv ∧ Nw w B
theorem peC_noU8 (link : Int) (A : Option Addr) (n c : Nat) (B : Option Addr) (m b : Nat) : ∀ (j : Nat) (x : Int), (peC link A n c (.slice B m b))[j]? ≠ some (.int .u8 x) :=
  noU8_3 _ _ _ (by intro b e; cases e) (by intro b e; cases e) (by intro b e; cases e)
/-- the answer's box -/
structure PBox (W : World) (R : Nat) (link : Int) (A : Option Addr) (n c : Nat) (B : Option Addr) (m b : Nat) : Prop where
  b : W.heap[R]? = some (.cells (peC link A n c (.slice B m b)) 36 (0, 0))
section
variable {W : World} {R : Nat} {link : Int} {A : Option Addr} {n c : Nat} {B : Option Addr} {m b : Nat}
theorem PBox.cells (h : PBox W R link A n c B m b) : W.cell? ⟨R, 0, none⟩ = some (.int .i64 link) ∧ W.cell? ⟨R, 1, none⟩ = some (.slice A n c) ∧ W.cell? ⟨R, 2, none⟩ = some (.slice B m b) ∧ W.frozen? ⟨R, 0, none⟩ = false ∧ W.frozen? ⟨R, 1, none⟩ = false ∧ W.frozen? ⟨R, 2, none⟩ = false :=
  ⟨(blk_cell h.b 0).trans rfl, (blk_cell h.b 1).trans rfl, (blk_cell h.b 2).trans rfl, blk_free h.b 0, blk_free h.b 1, blk_free h.b 2⟩
theorem PBox.only {w1 : World} {T : Nat → Prop} (h : PBox W R link A n c B m b) (k : Only W w1 T) (hT : ¬ T R) : PBox w1 R link A n c B m b := ⟨k.blk h.b hT⟩
theorem PBox.below {w1 : World} (h : PBox W R link A n c B m b) (hb : Below W.heap.size W w1) : PBox w1 R link A n c B m b := ⟨(hb.block _ (blk_lt h.b)).trans h.b⟩
theorem PBox.noU8 (h : PBox W R link A n c B m b) : NoU8 W R := NoU8.of h.b (peC_noU8 _ _ _ _ _ _ _)
end
def fill3 (W : World) (R : Nat) (link : Int) (A : Option Addr) (n c : Nat) (B : Option Addr) (m b : Nat) : World :=
  ((W.setCell ⟨R, 0, none⟩ (.int .i64 link)).setCell ⟨R, 1, none⟩ (.slice A n c)).setCell ⟨R, 2, none⟩ (.slice B m b)
theorem PBox.fill {W : World} {R : Nat} {link : Int} {A : Option Addr} {n c : Nat} {B : Option Addr} {m b : Nat} (h : PBox W R link A n c B m b) (l2 : Int) (A2 : Option Addr) (n2 c2 : Nat) (B2 : Option Addr) (m2 b2 : Nat) :
    PBox (fill3 W R l2 A2 n2 c2 B2 m2 b2) R l2 A2 n2 c2 B2 m2 b2 ∧ Only W (fill3 W R l2 A2 n2 c2 B2 m2 b2) (fun i => i = R) :=
  ⟨⟨blk_set (blk_set (blk_set h.b 0 (.int .i64 l2)) 1 (.slice A2 n2 c2)) 2 (.slice B2 m2 b2)⟩,
   (((Only.refl W (fun i => i = R)).setCell (p := ⟨R, 0, none⟩) (.inl rfl) _).setCell (p := ⟨R, 1, none⟩) (.inl rfl) _).setCell (p := ⟨R, 2, none⟩) (.inl rfl) _⟩
end Go.Proofs.YtafdhccdjbfepaaGreat.Peer
/- The walk of GetPeer$1: what the two readers of a row tell of a peer. -/
namespace Go.Proofs.YtafdhccdjbfepaaGreat.Peer
open Go.RowKit Go.Proofs.YtafdhccdjbfepaaGreat.K Go.Proofs.YtafdhccdjbfepaaGreat.Help Go.Proofs.YtafdhccdjbfepaaGreat.Pfx
set_option linter.unusedVariables false

set_option maxRecDepth 100000 in
set_option maxHeartbeats 2000000 in
theorem getPeer1 (gk rk gv rv : Nat) (k v : List UInt8) (w : World) (hk : Rdr w gk rk k 0 0) (hv : Rdr w gv rv v 0 0) (n1 : gk ≠ gv) (n2 : gk ≠ rv) (n3 : gv ≠ rk) :
    Calls Tryz.prog 84 #[.pointer (some ⟨gk, 0, none⟩), .pointer (some ⟨gv, 0, none⟩)] w (PeerR w gk gv rv (peerRd k v)) := by
  have hkm := hk.max
  have hvm := hv.max
  have K0 := Lib.hid (hk.below (below_alloc (Below.refl _ _) (.cells (peC 0 none 0 0 (.slice none 0 0)) 36)))
  have V0 := Lib.hid (hv.below (below_alloc (Below.refl _ _) (.cells (peC 0 none 0 0 (.slice none 0 0)) 36)))
  have O0 := Lib.hid ((Only.refl w (fun i => i = gk ∨ i = gv)).alloc (.cells (peC 0 none 0 0 (.slice none 0 0)) 36))
  have R0 : Hid (PBox (w.alloc (.cells (peC 0 none 0 0 (.slice none 0 0)) 36)) w.heap.size 0 none 0 0 none 0 0) := ⟨blk_new _ _⟩
  have GV := Lib.hid (And.intro (blk_lt hv.b) (And.intro (blk_lt hv.r) (blk_lt hk.b)))
  have NE := Lib.hid (And.intro n1 (And.intro n2 n3))
  clear hk hv n1 n2 n3
  generalize hd : peerRd k v = d
  have HD := Lib.hid hd
  clear hd
  unfold peerRd at HD
  generalize hT0 : takes k 0 1 0 = t0 at *
  obtain ⟨l0, ok0, p0, er0⟩ := t0
  dsimp only at HD
  generalize hT1 : takes k p0 4 er0 = t1 at *
  obtain ⟨l1, ok1, p1, er1⟩ := t1
  generalize hU0 : takes v 0 32 0 = u0 at *
  obtain ⟨key, okk, q0, fr0⟩ := u0
  dsimp only at HD
  generalize hU1 : takes v q0 1 fr0 = u1 at *
  obtain ⟨m1, okm, q1, fr1⟩ := u1
  dsimp only at HD
  generalize hU2 : takes v q1 (Help.Left v q1 fr1) fr1 = u2 at *
  obtain ⟨rest0, okr, q2, fr2⟩ := u2
  dsimp only at HD
  have T0 := Lib.hid hT0
  have T1 := Lib.hid hT1
  have U0 := Lib.hid hU0
  have U1 := Lib.hid hU1
  have U2 := Lib.hid hU2
  have B1 : val l1 < 4294967296 := Nat.lt_of_lt_of_le (val_pow (k := 4) (by have := (takes_len k p0 4 er0).1; rwa [hT1] at this)) (by decide)
  have B2 : val m1 < 256 := val_pow (k := 1) (by have := (takes_len v q0 1 fr0).1; rwa [hU1] at this)
  have hl5 := Help.Left_le v q1 fr1
  clear hT0 hT1 hU0 hU1 hU2
  have C0 := Lib.hid (rbytes gk rk 0 1 1 k 0 _ K0.out (by rfl) (by omega))
  rw [T0.out] at C0
  have C1 : Hid (∀ w, Rdr w gk rk k p0 er0 → Calls Tryz.prog 43 #[.pointer (some ⟨gk, 0, none⟩)] w (GetR w gk rk k .u32 (l1, ok1, p1, er1))) := by
    intro w h; have := get_uint32 gk rk p0 k er0 w h; rwa [T1.out] at this
  have C2 : Hid (∀ w, Rdr w gv rv v 0 0 → Calls Tryz.prog 40 #[.pointer (some ⟨gv, 0, none⟩), .int .i64 32] w (BytesR w gv rv v (key, okk, q0, fr0))) := by
    intro w h
    have := rbytes gv rv 0 32 32 v 0 w h rfl (by omega)
    rwa [U0.out] at this
  have C3 : Hid (∀ w, Rdr w gv rv v q0 fr0 → Calls Tryz.prog 42 #[.pointer (some ⟨gv, 0, none⟩)] w (GetR w gv rv v .u8 (m1, okm, q1, fr1))) := by
    intro w h; have := get_uint8 gv rv q0 v fr0 w h; rwa [U1.out] at this
  have C4 := Lib.hid (fun w h => left gv rv q1 v fr1 w h)
  have C5 : Hid (∀ w, Rdr w gv rv v q1 fr1 → Calls Tryz.prog 40 #[.pointer (some ⟨gv, 0, none⟩), .int .i64 (Help.Left v q1 fr1 : Int)] w (BytesR w gv rv v (rest0, okr, q2, fr2))) := by
    intro w h
    have := rbytes gv rv q1 (Help.Left v q1 fr1) _ v fr1 w h rfl (by omega)
    rwa [U2.out] at this
  unfold GetR at C1 C3
  dsimp only at C1 C3
  generalize val l1 = x1 at *
  generalize val m1 = m at *
  generalize Help.Left v q1 fr1 = lf at *
  go_enter Tryz.func84, Tryz.ntmps84
  go_wp2_with fail
  refine C0.out.mono ?_
  rintro e w1 ⟨A0, c0, rfl, _, kr, o1, -⟩
  dsimp only at kr
  have V1 := Lib.hid (V0.out.only o1 NE.out.1.symm NE.out.2.1.symm)
  have O1 := Lib.hid (O0.out.then_ o1 (fun i hi => .inl (.inl hi)))
  have R1 := Lib.hid (R0.out.only o1 (by have := GV.out; omega))
  have K1 := Lib.hid kr
  clear kr o1
  go_wp2_with fail
  refine (C1.out _ K1.out).mono ?_
  rintro e w2 ⟨rfl, kr, o2⟩
  have V2 := Lib.hid (V1.out.only o2 NE.out.1.symm NE.out.2.1.symm)
  have O2 := Lib.hid (O1.out.then_ o2 (fun i hi => .inl (.inl hi)))
  have R2 := Lib.hid (R1.out.only o2 (by have := GV.out; omega))
  clear kr o2
  go_wp2_with fail
  refine (C2.out _ V2.out).mono ?_
  rintro e w3 ⟨A, c, rfl, bs, vr, o3, hat⟩
  have HAT := Lib.hid hat
  clear hat
  dsimp only at vr bs o3
  have O3 := Lib.hid (O2.out.then_ o3 (fun i hi => .inl (.inr hi)))
  have R3 := Lib.hid (R2.out.only o3 (by have := GV.out; omega))
  have S3 := Lib.hid bs
  have V3 := Lib.hid vr
  clear bs vr o3
  go_wp2_with fail
  have hba := below_alloc (Below.refl w3.heap.size w3) (.cells (peC x1 A key.length c (.slice none 0 0)) 36)
  have N3 : Hid (PBox (w3.alloc (.cells (peC x1 A key.length c (.slice none 0 0)) 36)) w3.heap.size x1 A key.length c none 0 0) := ⟨blk_new _ _⟩
  have V4 := Lib.hid (V3.out.below hba)
  have O4 := Lib.hid (O3.out.alloc (.cells (peC x1 A key.length c (.slice none 0 0)) 36))
  have R4 := Lib.hid (R3.out.below hba)
  have S4 := Lib.hid (S3.out.below hba)
  have HN : Hid (w.heap.size < w3.heap.size) := Lib.hid (blk_lt R3.out.b)
  clear hba
  refine (C3.out _ V4.out).mono ?_
  rintro e u1 ⟨rfl, vr, o⟩
  have O5 := Lib.hid (O4.out.then_ o (fun i hi => .inl (.inr hi)))
  have R5 := Lib.hid (R4.out.only o (by have := GV.out; omega))
  have N5 := Lib.hid (N3.out.only o (by have := GV.out; have := HN.out; omega))
  have S5 := Lib.hid (bs_only S4.out o (fun i hi _ => by rw [hi]; exact V4.out.noU8))
  have V5 := Lib.hid vr
  clear vr o
  go_wp2_with fail
  refine (C4.out _ V5.out).mono ?_
  rintro e u2 ⟨q, rfl, rfl⟩
  go_wp2_with fail
  refine (C5.out _ (V5.out.drewN q)).mono ?_
  rintro e u2 ⟨A6, c6, rfl, bs, vr, o, -⟩
  dsimp only at bs ⊢
  have O6 := Lib.hid ((O5.out.drewN q).then_ o (fun i hi => .inl (.inr hi)))
  have R6 := Lib.hid (PBox.only (W := u1.drewN q) ⟨R5.out.b⟩ o (by have := GV.out; omega))
  have N6 := Lib.hid (PBox.only (W := u1.drewN q) ⟨N5.out.b⟩ o (by have := GV.out; have := HN.out; omega))
  have S6 := Lib.hid (bs_only (S5.out.drewN q) o (fun i hi _ => by rw [hi]; exact (V5.out.drewN q).noU8))
  have T6 := Lib.hid bs
  have HN6 : Hid (w3.heap.size < u2.heap.size) := Lib.hid (blk_lt N6.out.b)
  clear bs vr o
  generalize hN : w3.heap.size = N at *
  have hmI : (0 : Int) ≤ (m : Int) := by omega
  go_wp2_with fail
  go_loopg [27, 7] m (fun gk i s wr => ∃ (k : Nat) (ps : List PfxI) (rest : List UInt8) (A7 : Option Addr) (c7 : Nat) (B : Option Addr) (b : Nat), k ≤ m ∧ gk = m - k ∧ i = .int .i64 (k : Int) ∧ s = .slice A7 rest.length c7 ∧ getN k rest0 = some (ps, rest) ∧ PLoop u2 wr N x1 A key.length c (.slice B ps.length b) ps ∧ Bs u2 A7 c7 rest)
  case atStart => exact ⟨0, [], rest0, A6, c6, none, 0, by omega, rfl, rfl, rfl, rfl, ⟨N6.out.b, OwnP.nil _ _, Only.refl _ _, HN6.out⟩, T6.out⟩
  case round =>
    obtain ⟨k, ps, rest, A7, c7, B, b, hk, rfl, rfl, rfl, hg, hL, hb⟩ := hrel
    have HG := Lib.hid hg
    have HL := Lib.hid hL
    have HR : Hid (PBox wr w.heap.size 0 none 0 0 none 0 0) := Lib.hid (R6.out.only hL.on (by have := HN.out; omega))
    have HB := Lib.hid (bs_only hb hL.on (fun i hi _ => by rw [hi]; exact N6.out.noU8))
    have HB0 := Lib.hid hb
    have HO : Hid (Only w wr (fun i => i = gk ∨ i = gv)) := Lib.hid (O6.out.then_ hL.on (fun i hi => .inr (by have := HN.out; omega)))
    clear hg hL hb
    by_cases hlt : k < m
    · have hlt2 : (k : Int) < m := by omega
      have V := Lib.hid (getP_any A7 c7 rest wr HB.out)
      have HP := Lib.hid (pfxGet_b rest)
      obtain ⟨⟨⟨fam, hi, lo, bits⟩, n, er⟩, hp⟩ : ∃ r, pfxGet rest = r := ⟨_, rfl⟩
      rw [hp] at V HP
      have HPG := Lib.hid hp
      clear hp
      unfold pgV pfV at V
      dsimp only at V HP
      obtain ⟨A9, hcut⟩ : ∃ A9 : Option Addr, (n ≤ rest.length → ∀ W : World, (Instr.slice 33 (.slice A7 rest.length c7) (some (.int .i64 (n : Int))) none none).run Tryz.prog W = .ok (.slice A9 (rest.length - n) (c7 - n)) W) ∧ (n ≤ rest.length → ∀ w, Bs w A7 c7 rest → Bs w A9 (c7 - n) (rest.drop n)) := by
        by_cases h : n ≤ rest.length
        · obtain ⟨A9, h1, h2⟩ := bs_cut A7 c7 rest n h
          exact ⟨A9, fun _ => h1, fun _ => h2⟩
        · exact ⟨none, fun h2 => absurd h2 h, fun h2 => absurd h2 h⟩
      have HCB := Lib.hid hcut.2
      have HC := Lib.hid hcut.1
      clear hcut
      go_wp2_with fail
      refine V.out.mono ?_
      rintro e w7 ⟨rfl, hb7⟩
      have L7 := Lib.hid (HL.out.below hb7)
      have R7 := Lib.hid (HR.out.below hb7)
      have O7 : Hid (Only w w7 (fun i => i = gk ∨ i = gv)) := Lib.hid (HO.out.then_ (Only.of_below hb7 (fun _ => False)) (fun i hi => hi.elim))
      clear hb7
      by_cases he : er = 0
      · subst he
        have hn := HP.out.2.2.1 rfl
        have hcut := HC.out hn.2
        have HQ := Lib.hid (getN_step HG.out HPG.out)
        have hba := below_alloc (below_alloc (Below.refl w7.heap.size w7) (.cells #[.int .i64 fam, .int .u64 (hi : Int), .int .u64 (lo : Int), .int .i64 (bits : Int)] 110)) (.cells #[.int .i64 fam, .int .u64 (hi : Int), .int .u64 (lo : Int), .int .i64 (bits : Int)] 110)
        have L8 := Lib.hid (L7.out.below hba)
        have X8 : Hid (((w7.alloc (.cells #[.int .i64 fam, .int .u64 (hi : Int), .int .u64 (lo : Int), .int .i64 (bits : Int)] 110)).alloc (.cells #[.int .i64 fam, .int .u64 (hi : Int), .int .u64 (lo : Int), .int .i64 (bits : Int)] 110)).heap[w7.heap.size + 1]? = some (.cells (pcs (fam, hi, lo, (bits : Int))).toArray 110 (0, 0))) := by
          have := blk_new (w7.alloc (.cells #[.int .i64 fam, .int .u64 (hi : Int), .int .u64 (lo : Int), .int .i64 (bits : Int)] 110)) (.cells #[.int .i64 fam, .int .u64 (hi : Int), .int .u64 (lo : Int), .int .i64 (bits : Int)] 110)
          rw [show (w7.alloc (.cells #[.int .i64 fam, .int .u64 (hi : Int), .int .u64 (lo : Int), .int .i64 (bits : Int)] 110)).heap.size = w7.heap.size + 1 by simp] at this
          exact this
        have c2 : w7.cell? ⟨N, 2, none⟩ = some (.slice B ps.length b) := L7.out.c2
        have c2a := (L7.out.below (below_alloc (Below.refl w7.heap.size w7) (.cells #[.int .i64 fam, .int .u64 (hi : Int), .int .u64 (lo : Int), .int .i64 (bits : Int)] 110))).c2
        have hNw : ¬ N = w7.heap.size := by have := blk_lt L7.out.b; omega
        have hNw2 : ¬ w7.heap.size = N := by omega
        have hps := getN_len HG.out
        have HPS : Hid (ps.length ≤ 100000) := by rw [Hid, hps]; omega
        clear hba hps
        go_wp2_with (at_builtin; refine push_pfx (B := u2.heap.size) (W0 := _) rfl (.tmp 39) (.tmp 41) rfl (.slice B ps.length b) ps (fam, hi, lo, (bits : Int)) (w7.heap.size + 1) 1 rfl rfl L8.out.own X8.out ⟨HP.out.1, HP.out.2.1⟩ (Below.refl _ _) L8.out.on.size HPS.out ?_; intro A3 c3 w8 o8 _ k8; obtain ⟨g1, g2, g3⟩ := L8.out.grow o8 k8; have L9 := Lib.hid g3; clear o8 k8 g3)
        go_roundg (m - (k + 1))
        case measure => omega
        case rel => exact ⟨k + 1, ps ++ [(fam, hi, lo, (bits : Int))], rest.drop n, A9, c7 - n, A3, c3, by omega, rfl, by go_num, by simp, HQ.out, by simpa using L9.out, HCB.out hn.2 _ HB0.out⟩
      · have hen : (er != 0) = true := by simpa using he
        have HQ := Lib.hid (getN_stop HG.out HPG.out he)
        have HD2 : Hid (d = zeroPeer) := by
          have := HD.out
          unfold peerOf at this
          rw [getN_none HQ.out (by omega)] at this
          exact this.symm
        have hba := below_alloc (Below.refl w7.heap.size w7) (.cells #[.int .i64 fam, .int .u64 (hi : Int), .int .u64 (lo : Int), .int .i64 (bits : Int)] 110)
        have R8 := Lib.hid (R7.out.below hba)
        have O8 := Lib.hid (O7.out.alloc (.cells #[.int .i64 fam, .int .u64 (hi : Int), .int .u64 (lo : Int), .int .i64 (bits : Int)] 110))
        clear hba
        obtain ⟨r0, r1, r2, z0, z1, z2⟩ := R8.out.cells
        have FF := Lib.hid (R8.out.fill 0 none 0 0 none 0 0)
        have JJ := Lib.hid FF.out.1.cells
        unfold fill3 at JJ
        clear hen
        go_wp2_with fail
        obtain ⟨j0, j1, j2, -, -, -⟩ := JJ.out
        have hD := HD2.out
        subst hD
        exact bodyPost_ret (v := .agg #[.int .i64 0, .slice none 0 0, .slice none 0 0]) (by simp [results, Tryz.results84, go_sem, j0, j1, j2]) rfl ⟨none, 0, none, 0, rfl, Bs.nil _ _ _, Ps.nil _, O8.out.then_ FF.out.2 (fun i hi => .inr (by omega)), (fun _ h => by cases h), Nw.none _⟩
    · obtain rfl : k = m := by omega
      have HD2 : Hid (d = ⟨x1, key, ps⟩) := by
        have := HD.out
        unfold peerOf at this
        rw [HG.out] at this
        exact this.symm
      obtain ⟨r0, r1, r2, z0, z1, z2⟩ := HR.out.cells
      have NB : Hid (PBox wr N x1 A key.length c B ps.length b) := ⟨HL.out.b⟩
      obtain ⟨p0, p1, p2, -, -, -⟩ := NB.out.cells
      have FF := Lib.hid (HR.out.fill x1 A key.length c B ps.length b)
      have JJ := Lib.hid FF.out.1.cells
      unfold fill3 at JJ
      have HPs : Hid (Ps wr B b ps) := by
        obtain ⟨B2, b2, e, h⟩ := HL.out.own.ps
        injection e with e1 e2 e3
        subst e1 e3
        exact h
      have SK := Lib.hid (bs_only S6.out HL.out.on (fun i hi _ => by rw [hi]; exact N6.out.noU8))
      go_wp2_with fail
      obtain ⟨j0, j1, j2, -, -, -⟩ := JJ.out
      have hD := HD2.out
      subst hD
      have hne : ∀ i, (Value.slice B ps.length b).ownBlock = some i → ¬ i = w.heap.size := fun i hi e => by have := HL.out.own.base_le hi; have := HN6.out; have := HN.out; omega
      have HPF : Ps (fill3 wr w.heap.size x1 A key.length c B ps.length b) B b ps := by
        obtain ⟨B2, b2, e, h⟩ := (HL.out.own.only FF.out.2 hne).ps
        injection e with e1 e2 e3
        subst e1 e3
        exact h
      exact bodyPost_ret (v := .agg #[.int .i64 x1, .slice A key.length c, .slice B ps.length b]) (by simp [results, Tryz.results84, go_sem, j0, j1, j2]) rfl ⟨A, c, B, b, rfl, bs_only SK.out FF.out.2 (fun i hi _ => by rw [hi]; exact HR.out.noU8), HPF, HO.out.then_ FF.out.2 (fun i hi => .inr (by omega)), HAT.out, OwnP.nw HL.out.own (by have := HN6.out; have := HN.out; omega)⟩
end Go.Proofs.YtafdhccdjbfepaaGreat.Peer
/- The walk of read[Peer]. -/
namespace Go.Proofs.YtafdhccdjbfepaaGreat.Peer
open Go.RowKit Go.Proofs.YtafdhccdjbfepaaGreat.K Go.Proofs.YtafdhccdjbfepaaGreat.Help Go.Proofs.YtafdhccdjbfepaaGreat.Pfx
set_option linter.unusedVariables false

/-- what GetPeer answers: the peer and the error -/
noncomputable def peerGet (k v : List UInt8) : PeerD × Int := if (putPeer (peerRd k v)).2.2 = 0 ∧ (putPeer (peerRd k v)).1 = k ∧ (putPeer (peerRd k v)).2.1 = v then (peerRd k v, 0) else (zeroPeer, 114)
def GotP (w : World) (t : PeerD × Int) (e : Ending) (w' : World) : Prop := ∃ A a B b, e = .returned (.tuple #[peerV A a B b t.1, .int .i64 t.2]) ∧ Bs w' A a t.1.key ∧ Ps w' B b t.1.ps ∧ Below w.heap.size w w' ∧ Nw w A ∧ Nw w B
abbrev zpC : Array Value := peC 0 none 0 0 (.slice none 0 0)
/-- read's memory: the boxes of the row, of the answer, of the empty answer -/
structure RdP (w w' : World) (x y : Value) : Prop where
  b : w'.heap[w.heap.size]? = some (.cells #[x, y] 47 (0, 0))
  r : w'.heap[w.heap.size + 1]? = some (.cells zpC 36 (0, 0))
  n : w'.heap[w.heap.size + 2]? = some (.cells zpC 36 (0, 0))
  below : Below w.heap.size w w'
section
variable {w w' w2 : World} {x y : Value}
theorem RdP.c0 (h : RdP w w' x y) : w'.cell? ⟨w.heap.size, 0, none⟩ = some x := (blk_cell h.b 0).trans rfl
theorem RdP.c1 (h : RdP w w' x y) : w'.cell? ⟨w.heap.size, 1, none⟩ = some y := (blk_cell h.b 1).trans rfl
theorem RdP.start (w : World) (x y : Value) : RdP w (((w.alloc (.cells #[x, y] 47)).alloc (.cells zpC 36)).alloc (.cells zpC 36)) x y :=
  ⟨blk_alloc (blk_alloc (blk_new _ _) _) _, blk_alloc (by have := blk_new (w.alloc (.cells #[x, y] 47)) (.cells zpC 36); simpa using this) _,
    by have := blk_new ((w.alloc (.cells #[x, y] 47)).alloc (.cells zpC 36)) (.cells zpC 36); simpa using this,
    below_alloc (below_alloc (below_alloc (Below.refl _ _) _) _) _⟩
theorem RdP.step (h : RdP w w' x y) (hb : Below w'.heap.size w' w2) : RdP w w2 x y := ⟨(hb.block _ (blk_lt h.b)).trans h.b, (hb.block _ (blk_lt h.r)).trans h.r, (hb.block _ (blk_lt h.n)).trans h.n, below_step h.below hb⟩
theorem RdP.drewN (h : RdP w w' x y) (n : Nat) : RdP w (w'.drewN n) x y := ⟨h.b, h.r, h.n, below_drewN h.below n⟩
theorem RdP.alloc (h : RdP w w' x y) (o : Obj) : RdP w (w'.alloc o) x y := h.step (below_alloc (Below.refl _ _) o)
theorem RdP.only {T : Nat → Prop} (h : RdP w w' x y) (k : Only w' w2 T) (hT : ∀ i, T i → w.heap.size + 2 < i) : RdP w w2 x y :=
  ⟨k.blk h.b (fun h2 => by have := hT _ h2; omega), k.blk h.r (fun h2 => by have := hT _ h2; omega), k.blk h.n (fun h2 => by have := hT _ h2; omega), below_only h.below k (fun i hi => by have := hT i hi; omega)⟩
theorem RdP.bs (h : RdP w w' x y) {A : Option Addr} {c : Nat} {l : List UInt8} (hs : Bs w A c l) : Bs w' A c l := hs.below h.below
theorem RdP.lt (h : RdP w w' x y) : w.heap.size + 2 < w'.heap.size := blk_lt h.n
end
/-- blocks of peers stay -/
def PersP (W W' : World) : Prop := ∀ (g : Nat) (cs : Array Value) (fr : Nat × Nat), W.heap[g]? = some (Obj.cells cs 36 fr) → W'.heap[g]? = some (Obj.cells cs 36 fr)
theorem zero_pcells {W : World} {X : Nat} (h : W.heap[X]? = some (.cells zpC 36 (0, 0))) :
    W.cell? ⟨X, 0, none⟩ = some (.int .i64 0) ∧ W.cell? ⟨X, 1, none⟩ = some (.slice none 0 0) ∧ W.cell? ⟨X, 2, none⟩ = some (.slice none 0 0) ∧ W.frozen? ⟨X, 0, none⟩ = false ∧ W.frozen? ⟨X, 1, none⟩ = false ∧ W.frozen? ⟨X, 2, none⟩ = false :=
  PBox.cells (A := none) (n := 0) (c := 0) (B := none) (m := 0) (b := 0) ⟨h⟩
def NewRP (w W : World) (x y : Value) (l : List UInt8) (e : Ending) (w2 : World) : Prop :=
  ∃ g r, e = .returned (.pointer (some ⟨g, 0, none⟩)) ∧ RdP w w2 x y ∧ Rdr w2 g r l 0 0 ∧ PersP W w2 ∧ (∀ g' r' k', Rdr W g' r' k' 0 0 → Rdr w2 g' r' k' 0 0 ∧ g' ≠ g ∧ g' ≠ r ∧ g ≠ r') ∧ w.heap.size + 2 < g ∧ w.heap.size ≤ r
theorem newReaderP {w W : World} {x y : Value} (A : Option Addr) (c : Nat) (l : List UInt8) (hW : RdP w W x y) (hs : Bs w A c l) : Calls Tryz.prog 80 #[.slice A l.length c] W (NewRP w W x y l) := by
  refine (newReader A c l W (hW.bs hs)).mono ?_
  rintro e w2 ⟨g, r, rfl, h1, h2, h3, h4⟩
  refine ⟨g, r, rfl, hW.step h2, h1, fun g cs fr h => (h2.block _ (blk_lt h)).trans h, fun g' r' k' h => ⟨h.below h2, ?_, ?_, ?_⟩, Nat.lt_of_lt_of_le hW.lt h3, by have := hW.lt; omega⟩
  · have := blk_lt h.b; omega
  · have := blk_lt h.b; omega
  · have := blk_lt h.r; omega
def GotRP (w W : World) (x y : Value) (d : PeerD) (e : Ending) (w3 : World) : Prop := ∃ A a B b, e = .returned (peerV A a B b d) ∧ RdP w w3 x y ∧ Bs w3 A a d.key ∧ Ps w3 B b d.ps ∧ PersP W w3 ∧ Nw w A ∧ Nw w B
theorem getPeer2 {w W : World} {x y : Value} (gk rk gv rv : Nat) (k v : List UInt8) (hW : RdP w W x y) (hk : Rdr W gk rk k 0 0) (hv : Rdr W gv rv v 0 0) (n : gk ≠ gv ∧ gk ≠ rv ∧ gv ≠ rk) (h1 : w.heap.size + 2 < gk) (h2 : w.heap.size + 2 < gv) (h3 : w.heap.size ≤ rv) :
    Calls Tryz.prog 84 #[.pointer (some ⟨gk, 0, none⟩), .pointer (some ⟨gv, 0, none⟩)] W (GotRP w W x y (peerRd k v)) := by
  refine (getPeer1 gk rk gv rv k v W hk hv n.1 n.2.1 n.2.2).mono ?_
  rintro e w3 ⟨A, a, B, b, rfl, hb, hp, ho, hat, hnb⟩
  refine ⟨A, a, B, b, rfl, hW.only ho (fun i hi => ?_), hb, hp, fun g cs fr h => ho.blk h (fun hi => ?_), hat.nw h3, hnb.back (by have := hW.lt; omega)⟩
  · rcases hi with rfl | rfl <;> assumption
  · rcases hi with rfl | rfl
    · exact blk_ne h hk.b (by decide) rfl
    · exact blk_ne h hv.b (by decide) rfl
/-- behind the readers: the peer in its box -/
def PCut (w : World) (x y : Value) (d : PeerD) (s9 : Value) (wx : World) : Prop :=
  ∃ X A a B b, s9 = .pointer (some ⟨X, 0, none⟩) ∧ RdP w wx x y ∧ Bs wx A a d.key ∧ Ps wx B b d.ps ∧ PBox wx X d.link A d.key.length a B d.ps.length b ∧ w.heap.size + 2 < X ∧ Nw w A ∧ Nw w B
/-- prefixes stay where only peers' boxes are written -/
theorem ps_only {w w' : World} {B : Option Addr} {b : Nat} {l : List PfxI} {T : Nat → Prop} (h : Ps w B b l) (k : Only w w' T) (hT : ∀ i, T i → ∃ cs fr, w.heap[i]? = some (.cells cs 36 fr) ∧ ∀ (j : Nat) (x : Int), cs[j + 1]? ≠ some (.int .u64 x)) : Ps w' B b l := by
  refine ⟨h.le, h.max, h.lt, fun i hi => ?_⟩
  obtain ⟨bk, off, e, hlt, h0, h1, h2, h3⟩ := h.at_ i hi
  have hn : ¬ T bk := fun ht => by
    obtain ⟨cs, fr, hb, hc⟩ := hT bk ht
    rw [blk_cell hb] at h1
    exact hc _ _ h1
  have hk := k.block bk hlt hn
  exact ⟨bk, off, e, Nat.lt_of_lt_of_le hlt k.size, (cell_blk (ad := ⟨bk, _, none⟩) hk).trans h0, (cell_blk (ad := ⟨bk, _, none⟩) hk).trans h1, (cell_blk (ad := ⟨bk, _, none⟩) hk).trans h2, (cell_blk (ad := ⟨bk, _, none⟩) hk).trans h3⟩
theorem PBox.noU64 {link : Int} {A : Option Addr} {n c : Nat} {B : Option Addr} {m b : Nat} : ∀ (j : Nat) (x : Int), (peC link A n c (.slice B m b))[j + 1]? ≠ some (.int .u64 x) := by
  intro j x e
  unfold peC at e
  match j with
  | 0 => simp at e
  | 1 => simp at e
  | (j + 2) => simp at e
theorem PBox.ps {W : World} {R : Nat} {link : Int} {A : Option Addr} {n c : Nat} {B : Option Addr} {m b : Nat} (h : PBox W R link A n c B m b) {w' : World} {B2 : Option Addr} {b2 : Nat} {l : List PfxI} (hp : Ps W B2 b2 l) (k : Only W w' (fun i => i = R)) : Ps w' B2 b2 l :=
  ps_only hp k (fun i hi => by rw [hi]; exact ⟨_, _, h.b, PBox.noU64⟩)
theorem PBox.bs {W : World} {R : Nat} {link : Int} {A : Option Addr} {n c : Nat} {B : Option Addr} {m b : Nat} (h : PBox W R link A n c B m b) {w' : World} {A2 : Option Addr} {a2 : Nat} {l : List UInt8} (hp : Bs W A2 a2 l) (k : Only W w' (fun i => i = R)) : Bs w' A2 a2 l :=
  bs_only hp k (fun i hi _ => by rw [hi]; exact h.noU8)
theorem PCut.mk' {w W : World} {x y : Value} {d : PeerD} {A : Option Addr} {a : Nat} {B : Option Addr} {b X : Nat} (hW : RdP w W x y) (hb : Bs W A a d.key) (hp : Ps W B b d.ps) (hX : W.heap[X]? = some (.cells zpC 36 (0, 0))) (hlt : w.heap.size + 2 < X) (hn : Nw w A ∧ Nw w B) :
    PCut w x y d (.pointer (some ⟨X, 0, none⟩)) (fill3 W X d.link A d.key.length a B d.ps.length b) := by
  have h0 : PBox W X 0 none 0 0 none 0 0 := ⟨hX⟩
  have hf := h0.fill d.link A d.key.length a B d.ps.length b
  exact ⟨X, A, a, B, b, rfl, hW.only hf.2 (fun i hi => by rw [hi]; exact hlt), h0.bs hb hf.2, h0.ps hp hf.2, hf.1, hlt, hn⟩
theorem PCut.new {w W : World} {x y : Value} {d : PeerD} {A : Option Addr} {a : Nat} {B : Option Addr} {b : Nat} (hW : RdP w W x y) (hb : Bs W A a d.key) (hp : Ps W B b d.ps) (hn : Nw w A ∧ Nw w B) :
    PCut w x y d (.pointer (some ⟨W.heap.size, 0, none⟩)) (W.alloc (.cells (peC d.link A d.key.length a (.slice B d.ps.length b)) 36)) :=
  ⟨_, A, a, B, b, rfl, hW.alloc _, hb.below (below_alloc (Below.refl _ _) _), hp.below (below_alloc (Below.refl _ _) _), ⟨blk_new _ _⟩, hW.lt, hn⟩
/-- the boxes and the peer -/
structure RdY (w W : World) (x y : Value) (X : Nat) (A : Option Addr) (a : Nat) (B : Option Addr) (b : Nat) (d : PeerD) : Prop where
  h : RdP w W x y
  bs : Bs W A a d.key
  ps : Ps W B b d.ps
  bx : PBox W X d.link A d.key.length a B d.ps.length b
section
variable {w W w2 : World} {x y : Value} {X : Nat} {A : Option Addr} {a : Nat} {B : Option Addr} {b : Nat} {d : PeerD}
theorem RdY.step (h : RdY w W x y X A a B b d) (hb : Below W.heap.size W w2) : RdY w w2 x y X A a B b d :=
  ⟨h.h.step hb, h.bs.below hb, h.ps.below hb, h.bx.below hb⟩
theorem RdY.drewN (h : RdY w W x y X A a B b d) (n : Nat) : RdY w (W.drewN n) x y X A a B b d := ⟨h.h.drewN n, h.bs.drewN n, h.ps.drewN n, ⟨h.bx.b⟩⟩
/-- the answer laid -/
theorem RdY.fin (h : RdY w W x y X A a B b d) {A2 : Option Addr} {a2 : Nat} {B2 : Option Addr} {b2 : Nat} (d2 : PeerD) (hs : Bs W A2 a2 d2.key) (hp : Ps W B2 b2 d2.ps) :
    PBox (fill3 W (w.heap.size + 1) d2.link A2 d2.key.length a2 B2 d2.ps.length b2) (w.heap.size + 1) d2.link A2 d2.key.length a2 B2 d2.ps.length b2
     ∧ Bs (fill3 W (w.heap.size + 1) d2.link A2 d2.key.length a2 B2 d2.ps.length b2) A2 a2 d2.key ∧ Ps (fill3 W (w.heap.size + 1) d2.link A2 d2.key.length a2 B2 d2.ps.length b2) B2 b2 d2.ps
     ∧ Below w.heap.size w (fill3 W (w.heap.size + 1) d2.link A2 d2.key.length a2 B2 d2.ps.length b2) := by
  have h0 : PBox W (w.heap.size + 1) 0 none 0 0 none 0 0 := ⟨h.h.r⟩
  have hf := h0.fill d2.link A2 d2.key.length a2 B2 d2.ps.length b2
  exact ⟨hf.1, h0.bs hs hf.2, h0.ps hp hf.2, below_only h.h.below hf.2 (fun i hi => by rw [hi]; omega)⟩
end
theorem peerRd_n (k v : List UInt8) : (peerRd k v).key.length ≤ 32 ∧ (peerRd k v).link < 4294967296 ∧ 0 ≤ (peerRd k v).link ∧ (peerRd k v).ps.length < 256 := by
  unfold peerRd peerOf
  dsimp only
  have h1 := takes_len v 0 32 0
  have hlt : val (takes k (takes k 0 1 0).2.2.1 4 (takes k 0 1 0).2.2.2).1 < 4294967296 := Nat.lt_of_lt_of_le (val_pow (k := 4) (takes_len k _ 4 _).1) (by decide)
  have hlt2 : val (takes v (takes v 0 32 0).2.2.1 1 (takes v 0 32 0).2.2.2).1 < 256 := val_pow (k := 1) (takes_len v _ 1 _).1
  split
  · exact ⟨by simp [zeroPeer], by simp [zeroPeer], by simp [zeroPeer], by simp [zeroPeer]⟩
  · rename_i p hp
    obtain ⟨ps, r⟩ := p
    exact ⟨h1.1, by dsimp only; omega, by dsimp only; omega, by rw [getN_len hp]; exact hlt2⟩

set_option maxRecDepth 100000 in
set_option maxHeartbeats 4000000 in
theorem readPeer (A B : Option Addr) (c d : Nat) (k v : List UInt8) (w : World) (ha : Bs w A c k) (hb : Bs w B d v) :
    Calls Tryz.prog 83 #[.agg #[.slice A k.length c, .slice B v.length d], .func (.func 84) #[] #[], .func (.func 27) #[] #[]] w (GotP w (peerGet k v)) := by
  have HA := Lib.hid ha
  have HB := Lib.hid hb
  clear ha hb
  have H0 := Lib.hid (RdP.start w (.slice A k.length c) (.slice B v.length d))
  have s0 := H0.out.c0
  have s1 := H0.out.c1
  have G : Hid (∀ gk rk gv rv W, RdP w W (.slice A k.length c) (.slice B v.length d) → Rdr W gk rk k 0 0 → Rdr W gv rv v 0 0 → (gk ≠ gv ∧ gk ≠ rv ∧ gv ≠ rk) → w.heap.size + 2 < gk → w.heap.size + 2 < gv → w.heap.size ≤ rv → Calls Tryz.prog 84 #[.pointer (some ⟨gk, 0, none⟩), .pointer (some ⟨gv, 0, none⟩)] W (GotRP w W (.slice A k.length c) (.slice B v.length d) (peerRd k v))) :=
    Lib.hid (fun gk rk gv rv W h0 h1 h2 h3 h4 h5 h6 => getPeer2 gk rk gv rv k v h0 h1 h2 h3 h4 h5 h6)
  generalize hg : peerGet k v = got
  have HG := Lib.hid hg
  clear hg
  unfold peerGet at HG
  have XB := Lib.hid (peerRd_n k v)
  generalize peerRd k v = x at *
  go_enter Tryz.func83, Tryz.ntmps83
  go_upto_region 2 with fail
  go_cut [9] (fun s9 wx => PCut w (.slice A k.length c) (.slice B v.length d) x s9 wx)
  case first =>
    have hlt0 := H0.out.lt
    unfold zpC peC at H0
    generalize ((w.alloc (.cells #[.slice A k.length c, .slice B v.length d] 47)).alloc (.cells #[.int .i64 0, .slice none 0 0, .slice none 0 0] 36)).alloc (.cells #[.int .i64 0, .slice none 0 0, .slice none 0 0] 36) = W0 at H0 ⊢
    clear hlt0 s0 s1
    have s0 := H0.out.c0
    have s1 := H0.out.c1
    go_region_held3 (fun w' => w'.cell? ⟨w.heap.size, 0, none⟩ = some (.slice A k.length c) ∧ w'.cell? ⟨w.heap.size, 1, none⟩ = some (.slice B v.length d)) (first | go_keep | exact ⟨d0, d1⟩ | exact ⟨e0, e1⟩ | exact ⟨f0, f1⟩)
      (first
      | (go_at_call 84; refine (G.out g1 r1 g2 r2 _ (by first | exact H2.out | exact H2.out.drewN _ | exact H2.out.alloc _ | exact (H2.out.alloc _).drewN _) (by first | exact R1'.out | exact R1'.out.drewN _ | exact R1'.out.below (below_alloc (Below.refl _ _) _) | exact (R1'.out.below (below_alloc (Below.refl _ _) _)).drewN _) (by first | exact R2.out | exact R2.out.drewN _ | exact R2.out.below (below_alloc (Below.refl _ _) _) | exact (R2.out.below (below_alloc (Below.refl _ _) _)).drewN _) NE.out L1.out L2.out LR2.out).mono ?_; rintro e w3 ⟨A3, a3, B3, b3, rfl, h1, h2, h2p, h3, h4⟩; have NW3 := Lib.hid h4; clear h4; unfold peerV; have f0 := h1.c0; have f1 := h1.c1; have H3 := Lib.hid h1; have S3 := Lib.hid h2; have SP3 := Lib.hid h2p; have P3 := Lib.hid h3; clear h1 h2 h2p h3; (try (have zA := P3.out _ _ _ (P2.out _ _ _ (P1.out _ _ _ (blk_new W0 _))); obtain ⟨ya0, ya1, ya2, yb0, yb1, yb2⟩ := zero_pcells zA; have ZA := Lib.hid zA; have nA1 : ¬ w.heap.size = W0.heap.size := (by have := H0.out.lt; omega); have nA2 : ¬ W0.heap.size = w.heap.size := (by have := H0.out.lt; omega); clear zA)); (try (have zB := P3.out _ _ _ (P2.out _ _ _ (blk_new w1 _)); obtain ⟨yc0, yc1, yc2, yd0, yd1, yd2⟩ := zero_pcells zB; have ZB := Lib.hid zB; have nB1 : ¬ w.heap.size = w1.heap.size := (by have := H1.out.lt; omega); have nB2 : ¬ w1.heap.size = w.heap.size := (by have := H1.out.lt; omega); clear zB)); (try (have zC := P3.out _ _ _ (blk_new w2 _); obtain ⟨ye0, ye1, ye2, yf0, yf1, yf2⟩ := zero_pcells zC; have ZC := Lib.hid zC; have nC1 : ¬ w.heap.size = w2.heap.size := (by have := H2.out.lt; omega); have nC2 : ¬ w2.heap.size = w.heap.size := (by have := H2.out.lt; omega); clear zC)))
      | (go_at_call_of 80 (Value.slice B v.length d); refine (newReaderP B d v (by first | exact H1.out | exact H1.out.drewN _ | exact H1.out.alloc _ | exact (H1.out.alloc _).drewN _) HB.out).mono ?_; rintro e w2 ⟨g2, r2, rfl, h1, h2, h3, h4, h5, h6⟩
         have LR2 := Lib.hid h6
         clear h6
         have e0 := h1.c0
         have e1 := h1.c1
         have hh := h4 g1 r1 k (by first | exact R1.out | exact R1.out.drewN _ | exact R1.out.below (below_alloc (Below.refl _ _) _) | exact (R1.out.below (below_alloc (Below.refl _ _) _)).drewN _)
         have H2 := Lib.hid h1
         have R2 := Lib.hid h2
         have P2 := Lib.hid h3
         have R1' := Lib.hid hh.1
         have NE := Lib.hid hh.2
         have L2 := Lib.hid h5
         clear h1 h2 h3 h4 h5 hh)
      | (go_at_call_of 80 (Value.slice A k.length c); refine (newReaderP A c k (by first | exact H0.out | exact H0.out.drewN _ | exact H0.out.alloc _ | exact (H0.out.alloc _).drewN _) HA.out).mono ?_; rintro e w1 ⟨g1, r1, rfl, h1, h2, h3, h4, h5, -⟩
         have d0 := h1.c0
         have d1 := h1.c1
         have H1 := Lib.hid h1
         have R1 := Lib.hid h2
         have P1 := Lib.hid h3
         have L1 := Lib.hid h5
         clear h1 h2 h3 h4 h5))
    · go_wp2_with fail
      go_meet
      exact PCut.new H3.out S3.out SP3.out NW3.out
    · go_wp2_with fail
      go_meet
      exact PCut.mk' H3.out S3.out SP3.out ZC.out H2.out.lt NW3.out
    · go_wp2_with fail
      go_meet
      exact PCut.mk' H3.out S3.out SP3.out ZB.out H1.out.lt NW3.out
    · go_wp2_with fail
      go_meet
      exact PCut.mk' H3.out S3.out SP3.out ZA.out H0.out.lt NW3.out
  case rest =>
    obtain ⟨X, A2, a2, B2, b2, rfl, hr, hb, hp, hX, hlt, hnw⟩ := hcut
    have NWX := Lib.hid hnw
    clear hnw
    have hx0 : RdY w wc (.slice A k.length c) (.slice B v.length d) X A2 a2 B2 b2 x := ⟨hr, hb, hp, hX⟩
    obtain ⟨p0, p1, p2, -, -, -⟩ := hX.cells
    have HX0 := Lib.hid hx0
    have P := Lib.hid (putPeer_any A2 B2 a2 b2 x wc hb hp)
    clear hr hb hp hX hx0
    have hXne : ¬ w.heap.size = X := by omega
    generalize putPeer x = pl at *
    obtain ⟨k', v', code⟩ := pl
    dsimp only at P HG
    obtain ⟨link, key, ps⟩ := x
    unfold peerV at P
    dsimp only at *
    go_wp2_with fail
    refine P.out.mono ?_
    rintro e w4 ⟨v1, v2, rfl, o1, o2, hb4⟩
    obtain ⟨B1, d1, rfl, q1⟩ := o1.bs
    obtain ⟨B2', d2, rfl, q2⟩ := o2.bs
    have hb5 := below_alloc hb4 (.cells #[.slice B1 k'.length d1, .slice B2' v'.length d2] 47)
    have hb6 := below_alloc (Below.refl w4.heap.size w4) (.cells #[.slice B1 k'.length d1, .slice B2' v'.length d2] 47)
    have hx5 := HX0.out.step hb5
    have m0 := hx5.h.c0
    have m1 := hx5.h.c1
    obtain ⟨p0, p1, p2, -, -, -⟩ := hx5.bx.cells
    obtain ⟨r0, r1, r2, z0, z1, z2⟩ := zero_pcells hx5.h.r
    obtain ⟨n0, n1, n2, -, -, -⟩ := zero_pcells hx5.h.n
    have H5 := Lib.hid hx5
    have Q1 := Lib.hid (q1.below hb6)
    have Q2 := Lib.hid (q2.below hb6)
    clear o1 o2 hb4 q1 q2 hb5 hb6 hx5
    by_cases hc : code = 0
    · subst hc
      go_wp2_with fail
      refine (bytesEqual B1 A d1 c k' k _ Q1.out (H5.out.h.bs HA.out)).mono ?_
      rintro e w5 ⟨n1, rfl, rfl⟩
      by_cases hk : k' = k
      · have hd : decide (k' = k) = true := decide_eq_true hk
        rw [hd]
        have HK := Lib.hid hk
        clear hk hd
        go_wp2_with fail
        refine (bytesEqual B2' B d2 d v' v _ (Q2.out.drewN n1) ((H5.out.h.drewN n1).bs HB.out)).mono ?_
        rintro e w5 ⟨n2, rfl, rfl⟩
        by_cases hv : v' = v
        · have hd2 : decide (v' = v) = true := decide_eq_true hv
          rw [hd2]
          have hG := HG.out
          rw [if_pos (by refine ⟨?_, HK.out, hv⟩; trivial)] at hG
          subst hG
          clear hv hd2
          have FF := Lib.hid ((H5.out.drewN (n1 + n2)).fin ⟨link, key, ps⟩ (H5.out.bs.drewN _) (H5.out.ps.drewN _))
          have JJ := Lib.hid FF.out.1.cells
          unfold fill3 at JJ
          dsimp only at JJ
          go_wp2_with fail
          obtain ⟨j0, j1, j2, -, -, -⟩ := JJ.out
          exact bodyPost_ret (v := .tuple #[.agg #[.int .i64 link, .slice A2 key.length a2, .slice B2 ps.length b2], .int .i64 0]) (by simp [results, Tryz.results83, go_sem, j0, j1, j2]) rfl ⟨A2, a2, B2, b2, rfl, FF.out.2.1, FF.out.2.2.1, FF.out.2.2.2, NWX.out⟩
        · have hd2 : decide (v' = v) = false := decide_eq_false hv
          rw [hd2]
          have hG := HG.out
          rw [if_neg (fun h => hv h.2.2)] at hG
          subst hG
          clear hv hd2
          have FF := Lib.hid ((H5.out.drewN (n1 + n2)).fin zeroPeer (A2 := none) (a2 := 0) (B2 := none) (b2 := 0) (Bs.nil _ _ _) (Ps.nil _))
          have JJ := Lib.hid FF.out.1.cells
          unfold fill3 zeroPeer at JJ
          dsimp only [List.length_nil] at JJ
          go_wp2_with fail
          obtain ⟨j0, j1, j2, -, -, -⟩ := JJ.out
          exact bodyPost_ret (v := .tuple #[.agg #[.int .i64 0, .slice none 0 0, .slice none 0 0], .int .i64 114]) (by simp [results, Tryz.results83, go_sem, j0, j1, j2]) rfl ⟨none, 0, none, 0, rfl, FF.out.2.1, FF.out.2.2.1, FF.out.2.2.2, Nw.none _, Nw.none _⟩
      · have hd : decide (k' = k) = false := decide_eq_false hk
        rw [hd]
        have hG := HG.out
        rw [if_neg (fun h => hk h.2.1)] at hG
        subst hG
        clear hk hd
        have FF := Lib.hid ((H5.out.drewN n1).fin zeroPeer (A2 := none) (a2 := 0) (B2 := none) (b2 := 0) (Bs.nil _ _ _) (Ps.nil _))
        have JJ := Lib.hid FF.out.1.cells
        unfold fill3 zeroPeer at JJ
        dsimp only [List.length_nil] at JJ
        go_wp2_with fail
        obtain ⟨j0, j1, j2, -, -, -⟩ := JJ.out
        exact bodyPost_ret (v := .tuple #[.agg #[.int .i64 0, .slice none 0 0, .slice none 0 0], .int .i64 114]) (by simp [results, Tryz.results83, go_sem, j0, j1, j2]) rfl ⟨none, 0, none, 0, rfl, FF.out.2.1, FF.out.2.2.1, FF.out.2.2.2, Nw.none _, Nw.none _⟩
    · have hd : (code != 0) = true := by simpa using hc
      have hG := HG.out
      rw [if_neg (fun h => hc h.1)] at hG
      subst hG
      have FF := Lib.hid ((H5.out).fin zeroPeer (A2 := none) (a2 := 0) (B2 := none) (b2 := 0) (Bs.nil _ _ _) (Ps.nil _))
      have JJ := Lib.hid FF.out.1.cells
      unfold fill3 zeroPeer at JJ
      dsimp only [List.length_nil] at JJ
      go_wp2_with fail
      obtain ⟨j0, j1, j2, -, -, -⟩ := JJ.out
      exact bodyPost_ret (v := .tuple #[.agg #[.int .i64 0, .slice none 0 0, .slice none 0 0], .int .i64 114]) (by simp [results, Tryz.results83, go_sem, j0, j1, j2]) rfl ⟨none, 0, none, 0, rfl, FF.out.2.1, FF.out.2.2.1, FF.out.2.2.2, Nw.none _, Nw.none _⟩
end Go.Proofs.YtafdhccdjbfepaaGreat.Peer
/- The walks of GetPeer, Peer. -/
namespace Go.Proofs.YtafdhccdjbfepaaGreat.Peer
open Go.RowKit Go.Proofs.YtafdhccdjbfepaaGreat.K Go.Proofs.YtafdhccdjbfepaaGreat.Help Go.Proofs.YtafdhccdjbfepaaGreat.Pfx
set_option linter.unusedVariables false

/-- a box of what came in, and the answer's box of a peer -/
structure PZ (t : TypeId) (w w' : World) (cs : Array Value) : Prop where
  b : w'.heap[w.heap.size]? = some (.cells cs t (0, 0))
  r : PBox w' (w.heap.size + 1) 0 none 0 0 none 0 0
  below : Below w.heap.size w w'
section
variable {t : TypeId} {w w' w2 : World} {cs : Array Value}
theorem PZ.start (t : TypeId) (w : World) (cs : Array Value) : PZ t w ((w.alloc (.cells cs t)).alloc (.cells zpC 36)) cs :=
  ⟨blk_alloc (blk_new _ _) _, ⟨by have := blk_new (w.alloc (.cells cs t)) (.cells zpC 36); simpa using this⟩, below_alloc (below_alloc (Below.refl _ _) _) _⟩
theorem PZ.step (h : PZ t w w' cs) (hb : Below w'.heap.size w' w2) : PZ t w w2 cs := ⟨(hb.block _ (blk_lt h.b)).trans h.b, h.r.below hb, below_step h.below hb⟩
theorem PZ.drewN (h : PZ t w w' cs) (n : Nat) : PZ t w (w'.drewN n) cs := ⟨h.b, ⟨h.r.b⟩, below_drewN h.below n⟩
theorem PZ.only {T : Nat → Prop} (h : PZ t w w' cs) (k : Only w' w2 T) (hT : ∀ i, T i → w.heap.size + 1 < i) : PZ t w w2 cs :=
  ⟨k.blk h.b (fun h2 => by have := hT _ h2; omega), h.r.only k (fun h2 => by have := hT _ h2; omega), below_only h.below k (fun i hi => by have := hT i hi; omega)⟩
theorem PZ.cell (h : PZ t w w' cs) (j : Nat) : w'.cell? ⟨w.heap.size, j, none⟩ = cs[j]? := blk_cell h.b j
theorem PZ.bs (h : PZ t w w' cs) {A : Option Addr} {c : Nat} {l : List UInt8} (hs : Bs w A c l) : Bs w' A c l := hs.below h.below
theorem PZ.ps (h : PZ t w w' cs) {A : Option Addr} {c : Nat} {l : List PfxI} (hs : Ps w A c l) : Ps w' A c l := hs.below h.below
theorem PZ.lt (h : PZ t w w' cs) : w.heap.size + 1 < w'.heap.size := blk_lt h.r.b
/-- the answer laid -/
theorem PZ.fin (h : PZ t w w' cs) {A2 : Option Addr} {a2 : Nat} {B2 : Option Addr} {b2 : Nat} (d2 : PeerD) (hs : Bs w' A2 a2 d2.key) (hp : Ps w' B2 b2 d2.ps) :
    PBox (fill3 w' (w.heap.size + 1) d2.link A2 d2.key.length a2 B2 d2.ps.length b2) (w.heap.size + 1) d2.link A2 d2.key.length a2 B2 d2.ps.length b2
     ∧ Bs (fill3 w' (w.heap.size + 1) d2.link A2 d2.key.length a2 B2 d2.ps.length b2) A2 a2 d2.key ∧ Ps (fill3 w' (w.heap.size + 1) d2.link A2 d2.key.length a2 B2 d2.ps.length b2) B2 b2 d2.ps
     ∧ Below w.heap.size w (fill3 w' (w.heap.size + 1) d2.link A2 d2.key.length a2 B2 d2.ps.length b2) := by
  have hf := h.r.fill d2.link A2 d2.key.length a2 B2 d2.ps.length b2
  exact ⟨hf.1, h.r.bs hs hf.2, h.r.ps hp hf.2, below_only h.below hf.2 (fun i hi => by rw [hi]; omega)⟩
end
set_option maxRecDepth 100000 in
set_option maxHeartbeats 1000000 in
theorem getPeer_any (A B : Option Addr) (c d : Nat) (k v : List UInt8) (w : World) (ha : Bs w A c k) (hb : Bs w B d v) :
    Calls Tryz.prog 48 #[.agg #[.slice A k.length c, .slice B v.length d]] w (GotP w (peerGet k v)) := by
  have H0 := Lib.hid (PZ.start 47 w #[.slice A k.length c, .slice B v.length d])
  have R := Lib.hid (readPeer A B c d k v _ (H0.out.bs ha) (H0.out.bs hb))
  clear ha hb
  generalize peerGet k v = got at *
  obtain ⟨⟨link, key, ps⟩, code⟩ := got
  go_enter Tryz.func48, Tryz.ntmps48
  go_wp2_with fail
  refine R.out.mono ?_
  rintro e w1 ⟨A2, a2, B2, b2, rfl, hs, hp, hb1, hn1, hn2⟩
  have NW : Hid (Nw w A2 ∧ Nw w B2) := Lib.hid ⟨hn1.back (by simp; omega), hn2.back (by simp; omega)⟩
  clear hn1 hn2
  unfold peerV
  dsimp only at hs hp ⊢
  have h1 := H0.out.step hb1
  obtain ⟨r0, r1, r2, z0, z1, z2⟩ := h1.r.cells
  have FF := Lib.hid (h1.fin ⟨link, key, ps⟩ hs hp)
  have JJ := Lib.hid FF.out.1.cells
  unfold fill3 at JJ
  dsimp only at JJ
  clear hb1 hs hp h1
  go_wp2_with fail
  obtain ⟨j0, j1, j2, -, -, -⟩ := JJ.out
  exact bodyPost_ret (v := .tuple #[.agg #[.int .i64 link, .slice A2 key.length a2, .slice B2 ps.length b2], .int .i64 code]) (by simp [results, Tryz.results48, go_sem, j0, j1, j2]) rfl ⟨A2, a2, B2, b2, rfl, FF.out.2.1, FF.out.2.2.1, FF.out.2.2.2, NW.out⟩

/-- a peer in new memory -/
def PeerC (w : World) (d : PeerD) (e : Ending) (w' : World) : Prop := ∃ A a B b, e = .returned (peerV A a B b d) ∧ Bs w' A a d.key ∧ Ps w' B b d.ps ∧ Below w.heap.size w w' ∧ Nw w A ∧ Nw w B
set_option maxRecDepth 100000 in
set_option maxHeartbeats 1000000 in
theorem refPeer (A B : Option Addr) (a b : Nat) (d : PeerD) (w : World) (hs : Bs w A a d.key) (hp : Ps w B b d.ps) (hl : d.ps.length ≤ 100000) :
    Calls Tryz.prog 58 #[peerV A a B b d] w (PeerC w d) := by
  obtain ⟨link, key, ps⟩ := d
  unfold peerV
  dsimp only at *
  have H0 := Lib.hid (PZ.start 36 w #[.int .i64 link, .slice A key.length a, .slice B ps.length b])
  have BY := Lib.hid (fun W h => Help.bytes A a key W h)
  have PX := Lib.hid (fun W h => prefixes_any B b ps W h hl)
  have HS := Lib.hid hs
  have HP := Lib.hid hp
  clear hs hp hl
  go_enter Tryz.func58, Tryz.ntmps58
  go_wp2_with fail
  have hlt0 := H0.out.lt
  unfold zpC peC at H0
  generalize (w.alloc (.cells #[.int .i64 link, .slice A key.length a, .slice B ps.length b] 36)).alloc (.cells #[.int .i64 0, .slice none 0 0, .slice none 0 0] 36) = W0 at H0 ⊢
  have s0 : W0.cell? ⟨w.heap.size, 0, none⟩ = some (.int .i64 link) := H0.out.cell 0
  have s1 : W0.cell? ⟨w.heap.size, 1, none⟩ = some (.slice A key.length a) := H0.out.cell 1
  have s2 : W0.cell? ⟨w.heap.size, 2, none⟩ = some (.slice B ps.length b) := H0.out.cell 2
  obtain ⟨r0, r1, r2, z0, z1, z2⟩ := H0.out.r.cells
  go_region_held3 (fun w' => w'.cell? ⟨w.heap.size, 0, none⟩ = some (.int .i64 link) ∧ w'.cell? ⟨w.heap.size, 1, none⟩ = some (.slice A key.length a) ∧ w'.cell? ⟨w.heap.size, 2, none⟩ = some (.slice B ps.length b)) (first | go_keep | exact ⟨d0, d1, d2⟩ | exact ⟨e0, e1, e2⟩)
    (first
    | (go_at_call 99; refine (PX.out _ (by first | exact H1.out.ps HP.out | exact (H1.out.ps HP.out).drewN _)).mono ?_
       rintro e w2 ⟨v2, rfl, o2, hb2⟩
       obtain ⟨B2, b2, rfl, p2⟩ := o2.ps
       have h2 : PZ 36 w w2 #[.int .i64 link, .slice A key.length a, .slice B ps.length b] := (by first | exact H1.out.step hb2 | exact (H1.out.drewN _).step hb2)
       have e0 : w2.cell? ⟨w.heap.size, 0, none⟩ = some (.int .i64 link) := h2.cell 0
       have e1 : w2.cell? ⟨w.heap.size, 1, none⟩ = some (.slice A key.length a) := h2.cell 1
       have e2 : w2.cell? ⟨w.heap.size, 2, none⟩ = some (.slice B ps.length b) := h2.cell 2
       obtain ⟨r0, r1, r2, z0, z1, z2⟩ := h2.r.cells
       have NW2 : Hid (Nw w B2) := Lib.hid (OwnP.nw o2 (by have := H1.out.lt; first | omega | (simp; omega)))
       have S2 : Hid (Bs w2 A1 a1 key) := (by first | exact S1.out.below hb2 | exact (S1.out.drewN _).below hb2)
       have P2 := Lib.hid p2
       have H2 := Lib.hid h2
       clear h2 p2 o2 hb2)
    | (go_at_call 47; refine (BY.out _ (by first | exact H0.out.bs HS.out | exact (H0.out.bs HS.out).drewN _)).mono ?_
       rintro e w1 ⟨v1, rfl, o1, hb1⟩
       obtain ⟨A1, a1, rfl, t1⟩ := o1.bs
       have h1 : PZ 36 w w1 #[.int .i64 link, .slice A key.length a, .slice B ps.length b] := (by first | exact H0.out.step hb1 | exact (H0.out.drewN _).step hb1)
       have d0 : w1.cell? ⟨w.heap.size, 0, none⟩ = some (.int .i64 link) := h1.cell 0
       have d1 : w1.cell? ⟨w.heap.size, 1, none⟩ = some (.slice A key.length a) := h1.cell 1
       have d2 : w1.cell? ⟨w.heap.size, 2, none⟩ = some (.slice B ps.length b) := h1.cell 2
       have S1 := Lib.hid t1
       have NW1 : Hid (Nw w A1) := Lib.hid (Own.nw o1 (by have := H0.out.lt; first | omega | (simp; omega)))
       have H1 := Lib.hid h1
       clear h1 t1 o1 hb1))
  all_goals
    have FF := Lib.hid (H2.out.fin ⟨link, key, ps⟩ S2.out P2.out)
    have JJ := Lib.hid FF.out.1.cells
    unfold fill3 at JJ
    dsimp only at JJ
    go_wp2_with fail
    obtain ⟨j0, j1, j2, -, -, -⟩ := JJ.out
    exact bodyPost_ret (v := .agg #[.int .i64 link, .slice A1 key.length a1, .slice B2 ps.length b2]) (by simp [results, Tryz.results58, go_sem, j0, j1, j2]) rfl ⟨A1, a1, B2, b2, rfl, FF.out.2.1, FF.out.2.2.1, FF.out.2.2.2, NW1.out, NW2.out⟩
end Go.Proofs.YtafdhccdjbfepaaGreat.Peer
/- What a row of a peer's form says, plain; the cut behind the document's head of GetPeer. -/
namespace Go.Proofs.YtafdhccdjbfepaaGreat.Peer
open Go.RowKit Go.Proofs.YtafdhccdjbfepaaGreat.K Go.Proofs.YtafdhccdjbfepaaGreat.Help Go.Proofs.YtafdhccdjbfepaaGreat.Pfx
set_option linter.unusedVariables false

theorem putPeer_len {d : PeerD} (h : (putPeer d).2.2 = 0) : (putPeer d).1.length = 5 ∧ 33 ≤ (putPeer d).2.1.length := by
  by_cases hok : peerOk d
  · rw [putPeer_ok hok]
    refine ⟨by simp [be_len], ?_⟩
    have := hok.1.2.2.1
    simp [be_len]
    omega
  · rw [putPeer_bad hok] at h; cases h
theorem peerGet_bad {k v : List UInt8} (h : k.length ≠ 5 ∨ v.length < 33) : peerGet k v = (zeroPeer, 114) := by
  unfold peerGet
  rw [if_neg]
  rintro ⟨h0, h1, h2⟩
  have := putPeer_len h0
  rw [h1, h2] at this
  omega
theorem zeroPeer_bad : ¬ peerOk zeroPeer := by
  intro h
  have := h.1.1
  simp [zeroPeer] at this
theorem peerRd_len {k v : List UInt8} (hk : k.length = 5) (hv : 33 ≤ v.length) :
    peerRd k v = peerOf (val (cutN k 1 4)) (v.take 32) (v.getD 32 0).toNat (v.drop 33) := by
  unfold peerRd
  have e0 : takes k 0 1 0 = (cutN k 0 1, true, 1, 0) := takes_ok (by omega)
  have e1 : takes k 1 4 0 = (cutN k 1 4, true, 5, 0) := takes_ok (by omega)
  have f0 : takes v 0 32 0 = (cutN v 0 32, true, 32, 0) := takes_ok (by omega)
  have f1 : takes v 32 1 0 = (cutN v 32 1, true, 33, 0) := takes_ok (by omega)
  have hl : Help.Left v 33 0 = v.length - 33 := by unfold Help.Left; simp
  have f2 : takes v 33 (v.length - 33) 0 = (cutN v 33 (v.length - 33), true, 33 + (v.length - 33), 0) := takes_ok (by omega)
  simp only [e0, e1, f0, f1, hl, f2]
  have g0 : cutN v 0 32 = v.take 32 := by unfold cutN; rw [List.drop_zero]
  have g2 : cutN v 33 (v.length - 33) = v.drop 33 := by unfold cutN; exact List.take_of_length_le (by rw [List.length_drop]; omega)
  rw [g0, g2, val_one v 32 (by omega)]
set_option maxRecDepth 100000 in
set_option maxHeartbeats 1000000 in
theorem refGetPeer_bad (A B : Option Addr) (c d : Nat) (k v : List UInt8) (w : World) (ha : Bs w A c k) (hb : Bs w B d v) (h : k.length ≠ 5 ∨ v.length < 33) :
    Calls Tryz.prog 49 #[.agg #[.slice A k.length c, .slice B v.length d]] w (GotP w (zeroPeer, 114)) := by
  have H0 := Lib.hid (PZ.start 47 w #[.slice A k.length c, .slice B v.length d])
  have h1 := ha.max
  have h2 := hb.max
  have hcs : ((k.length : Int) != 5) = true ∨ (((k.length : Int) != 5) = false ∧ (v.length : Int) < 33) := by
    by_cases e : k.length = 5
    · exact .inr ⟨by rw [bne_eq_false_iff_eq]; omega, by omega⟩
    · exact .inl (by rw [bne_iff_ne]; omega)
  clear ha hb h
  generalize k.length = n1 at *
  generalize v.length = n2 at *
  rcases hcs with g | ⟨g, g2⟩
  all_goals
    go_enter Tryz.func49, Tryz.ntmps49
    go_wp2_with fail
    exact bodyPost_ret (v := .tuple #[.agg #[.int .i64 0, .slice none 0 0, .slice none 0 0], .int .i64 114]) (by simp [results, Tryz.results49, go_sem]) rfl ⟨none, 0, none, 0, rfl, Bs.nil _ _ _, Ps.nil _, by exact H0.out.below, Nw.none _, Nw.none _⟩
/-- a peer's box behind a row's and an answer's box -/
def QCut (w : World) (x y : Value) (link : Int) (key : List UInt8) (s : Value) (wx : World) : Prop :=
  ∃ X A a, s = .pointer (some ⟨X, 0, none⟩) ∧ PZ 47 w wx #[x, y] ∧ Bs wx A a key ∧ PBox wx X link A key.length a none 0 0 ∧ w.heap.size + 1 < X ∧ Nw w A
theorem QCut.new {w W : World} {x y : Value} {link : Int} {key : List UInt8} {A : Option Addr} {a : Nat} (hW : PZ 47 w W #[x, y]) (hb : Bs W A a key) (hn : Nw w A) :
    QCut w x y link key (.pointer (some ⟨W.heap.size, 0, none⟩)) (W.alloc (.cells (peC link A key.length a (.slice none 0 0)) 36)) :=
  ⟨_, A, a, rfl, hW.step (below_alloc (Below.refl _ _) _), hb.below (below_alloc (Below.refl _ _) _), ⟨blk_new _ _⟩, hW.lt, hn⟩
theorem QCut.mk' {w W : World} {x y : Value} {link : Int} {key : List UInt8} {A : Option Addr} {a X : Nat} (hW : PZ 47 w W #[x, y]) (hb : Bs W A a key) (hX : W.heap[X]? = some (.cells zpC 36 (0, 0))) (hlt : w.heap.size + 1 < X) (hn : Nw w A) :
    QCut w x y link key (.pointer (some ⟨X, 0, none⟩)) (fill3 W X link A key.length a none 0 0) := by
  have h0 : PBox W X 0 none 0 0 none 0 0 := ⟨hX⟩
  have hf := h0.fill link A key.length a none 0 0
  exact ⟨X, A, a, rfl, hW.only hf.2 (fun i hi => by rw [hi]; exact hlt), h0.bs hb hf.2, hf.1, hlt, hn⟩
end Go.Proofs.YtafdhccdjbfepaaGreat.Peer
