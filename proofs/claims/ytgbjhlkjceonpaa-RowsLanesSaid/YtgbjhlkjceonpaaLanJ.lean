/- The walk of the document's GetLane. -/
import Derived.Test.YtgbjhlkjceonpaaLanB
namespace Go.Proofs.Ytgbjhlkjceonpaa.Help
open Go.RowKit Go.Proofs.Ytgbjhlkjceonpaa.K
set_option linter.unusedVariables false

theorem bs_drop {w : World} {ad : Addr} {c : Nat} {l : List UInt8} (h : Bs w (some ad) c l) {n : Nat} (hn : n ≤ l.length) : Bs w (some (ad.add n)) (c - n) (l.drop n) := by
  refine ⟨by rw [List.length_drop]; have := h.le; omega, by rw [List.length_drop]; have := h.max; omega, fun i hi => ?_⟩
  rw [List.length_drop] at hi
  obtain ⟨ad', e, hlt, hc⟩ := h.at_ (n + i) (by omega)
  cases e
  refine ⟨_, rfl, by rw [addr_add_block]; exact hlt, ?_⟩
  have e2 : (ad.add n).add i = ad.add (n + i) := by unfold Addr.add; by_cases hi : n = 0 <;> by_cases hj : i = 0 <;> simp [hi, hj, Nat.add_assoc]
  rw [e2, hc]
  congr 3
  simp
set_option maxRecDepth 100000 in
set_option maxHeartbeats 1000000 in
theorem refGetLane_bad (A B : Option Addr) (c d : Nat) (k v : List UInt8) (w : World) (ha : Bs w A c k) (hb : Bs w B d v) (h : k.length ≠ 33 ∨ v.length ≠ 37) :
    Calls Try.prog 14 #[.agg #[.slice A k.length c, .slice B v.length d]] w (GotL w (zeroLane, 114)) := by
  have H0 := Lib.hid (LnZ.start 29 w #[.slice A k.length c, .slice B v.length d])
  have h1 := ha.max
  have h2 := hb.max
  have hcs : ((k.length : Int) != 33) = true ∨ (((k.length : Int) != 33) = false ∧ ((v.length : Int) != 37) = true) := by
    by_cases e : k.length = 33
    · exact .inr ⟨by rw [bne_eq_false_iff_eq]; omega, by rw [bne_iff_ne]; omega⟩
    · exact .inl (by rw [bne_iff_ne]; omega)
  clear ha hb h
  generalize k.length = n1 at *
  generalize v.length = n2 at *
  rcases hcs with g | ⟨g, g2⟩
  all_goals
    go_enter Try.func14, Try.ntmps14
    go_wp2_with fail
    exact bodyPost_ret (v := .tuple #[.agg #[.slice none 0 0, .int .i64 0, .int .i64 0, .int .i64 0, .int .u64 0, .int .u64 0, .int .i64 0, .int .i64 0], .int .i64 114]) (by simp [results, Try.results14, go_sem]) rfl ⟨none, 0, rfl, Bs.nil _ _ _, by exact H0.out.below⟩
/-- a lane's box behind a row's and an answer's box -/
def RCut (w : World) (x y : Value) (key : List UInt8) (side cur next sc ce : Int) (s : Value) (wx : World) : Prop :=
  ∃ X A c, s = .pointer (some ⟨X, 0, none⟩) ∧ LnZ 29 w wx #[x, y] ∧ Bs wx A c key ∧ wx.heap[X]? = some (.cells (lnC A key.length c side cur next sc ce 0 0) 27 (0, 0)) ∧ w.heap.size + 1 < X
theorem fill8_only (W : World) (X : Nat) (A : Option Addr) (n c : Nat) (side cur next sc ce se na : Int) : Only W (fill8 W X A n c side cur next sc ce se na) (fun k => k = X) := by
  unfold fill8
  exact ((((((((Only.refl W (fun k => k = X)).setCell (p := ⟨X, 0, none⟩) (.inl rfl) _).setCell (p := ⟨X, 1, none⟩) (.inl rfl) _).setCell (p := ⟨X, 2, none⟩) (.inl rfl) _).setCell (p := ⟨X, 3, none⟩) (.inl rfl) _).setCell (p := ⟨X, 4, none⟩) (.inl rfl) _).setCell (p := ⟨X, 5, none⟩) (.inl rfl) _).setCell (p := ⟨X, 6, none⟩) (.inl rfl) _).setCell (p := ⟨X, 7, none⟩) (.inl rfl) _
theorem RCut.new {w W : World} {x y : Value} {key : List UInt8} {side cur next sc ce : Int} {A : Option Addr} {c : Nat} (hW : LnZ 29 w W #[x, y]) (hb : Bs W A c key) :
    RCut w x y key side cur next sc ce (.pointer (some ⟨W.heap.size, 0, none⟩)) (W.alloc (.cells (lnC A key.length c side cur next sc ce 0 0) 27)) :=
  ⟨_, A, c, rfl, hW.step (below_alloc (Below.refl _ _) _), hb.below (below_alloc (Below.refl _ _) _), blk_new _ _, hW.lt⟩
theorem RCut.mk' {w W : World} {x y : Value} {key : List UInt8} {side cur next sc ce : Int} {A : Option Addr} {c X : Nat} (hW : LnZ 29 w W #[x, y]) (hb : Bs W A c key) (hX : W.heap[X]? = some (.cells (lnC none 0 0 0 0 0 0 0 0 0) 27 (0, 0))) (hlt : w.heap.size + 1 < X) :
    RCut w x y key side cur next sc ce (.pointer (some ⟨X, 0, none⟩)) (fill8 W X A key.length c side cur next sc ce 0 0) := by
  have h0 : RB w W (fun k => k = X) A c key X 27 (lnC none 0 0 0 0 0 0 0 0 0) := ⟨hX, lnC_noU8 _ _ _ _ _ _ _ _ _ _, hb, Only.of_below hW.below _, by omega⟩
  have h1 := h0.fill8 A key.length c side cur next sc ce 0 0
  exact ⟨X, A, c, rfl, hW.only (fill8_only ..) (fun i hi => by rw [hi]; exact hlt), h1.bs, h1.r, hlt⟩
theorem rdAt_cut {v : List UInt8} {a n : Nat} (h : a + n ≤ v.length) : rdAt v a n = val (cutN v a n) := by
  unfold rdAt cutN; rw [if_neg (by omega)]
theorem rdAt_pow (v : List UInt8) (a n : Nat) : rdAt v a n < 256 ^ n := by
  unfold rdAt
  split
  · exact Nat.pow_pos (by decide)
  · exact val_pow (by rw [List.length_take]; omega)
theorem stErr_of_same {d : LaneD} {v : List UInt8} (hd : LaneB d) (h0 : (putLane d).2.2 = 0) (h : (putLane d).2.1 = v) : (stGet (v.drop 25)).2.2 = 0 := by
  by_cases hok : laneOk d
  · rw [putLane_yes hok] at h
    dsimp only at h
    obtain ⟨_, _, _, _, _, _, hv⟩ := hok
    have hst : 0 ≤ d.sec ∧ 0 ≤ d.nano ∧ d.nano ≤ 999999999 := by unfold stV at hv; simp at hv; omega
    have hs := hd.sec
    have e : v.drop 25 = stPut d.sec.toNat d.nano.toNat := by
      rw [← h]
      unfold laneVal
      exact List.drop_left' (by simp [be_len])
    rw [e, stGet_put (by omega) (by omega)]
  · rw [putLane_no hok] at h0; cases h0
/-- the boxes and the lane as far as it is read -/
structure RCs (w W : World) (x y : Value) (X : Nat) (A : Option Addr) (c : Nat) (key : List UInt8) (side cur next sc ce se na : Int) : Prop where
  h : LnZ 29 w W #[x, y]
  bs : Bs W A c key
  bx : W.heap[X]? = some (.cells (lnC A key.length c side cur next sc ce se na) 27 (0, 0))
  hX : w.heap.size + 1 < X
section
variable {w W w2 : World} {x y : Value} {X : Nat} {A : Option Addr} {c : Nat} {key : List UInt8} {side cur next sc ce se na : Int}
theorem RCs.c0 (h : RCs w W x y X A c key side cur next sc ce se na) : W.cell? ⟨w.heap.size, 0, none⟩ = some x := h.h.cell 0
theorem RCs.c1 (h : RCs w W x y X A c key side cur next sc ce se na) : W.cell? ⟨w.heap.size, 1, none⟩ = some y := h.h.cell 1
theorem RCs.step (h : RCs w W x y X A c key side cur next sc ce se na) (hb : Below W.heap.size W w2) : RCs w w2 x y X A c key side cur next sc ce se na :=
  ⟨h.h.step hb, h.bs.below hb, (hb.block _ (blk_lt h.bx)).trans h.bx, h.hX⟩
theorem RCs.store (h : RCs w W x y X A c key side cur next sc ce se na) (j : Nat) (u : Value) {s1 c1 n1 sc1 ce1 se1 na1 : Int} (e : (lnC A key.length c side cur next sc ce se na).setIfInBounds j u = lnC A key.length c s1 c1 n1 sc1 ce1 se1 na1) :
    RCs w (W.setCell ⟨X, j, none⟩ u) x y X A c key s1 c1 n1 sc1 ce1 se1 na1 := by
  have o : Only W (W.setCell ⟨X, j, none⟩ u) (fun k => k = X) := (Only.refl W (fun k => k = X)).setCell (p := ⟨X, j, none⟩) (.inl rfl) u
  exact ⟨h.h.only o (fun i hi => by rw [hi]; exact h.hX), bs_only h.bs o (fun i hi _ => by rw [hi]; exact NoU8.of h.bx (lnC_noU8 _ _ _ _ _ _ _ _ _ _)), by rw [← e]; exact blk_set h.bx j u, h.hX⟩
theorem RCs.free (h : RCs w W x y X A c key side cur next sc ce se na) (j : Nat) : W.frozen? ⟨X, j, none⟩ = false := blk_free h.bx j
theorem RCs.rb (h : RCs w W x y X A c key side cur next sc ce se na) : RB w W (fun _ => False) A c key (w.heap.size + 1) 27 (lnC none 0 0 0 0 0 0 0 0 0) := h.h.rb h.bs
theorem RCs.old (h : RCs w W x y X A c key side cur next sc ce se na) {B : Option Addr} {b : Nat} {l : List UInt8} (hs : Bs w B b l) : Bs W B b l := hs.below h.h.below
end
set_option maxRecDepth 100000 in
set_option maxHeartbeats 4000000 in
theorem refGetLane_len (A B : Option Addr) (c d : Nat) (k v : List UInt8) (w : World) (ha : Bs w A c k) (hb : Bs w B d v) (hk : k.length = 33) (hv : v.length = 37) :
    Calls Try.prog 14 #[.agg #[.slice A k.length c, .slice B v.length d]] w (GotL w (laneGet k v)) := by
  obtain ⟨ad, rfl, hadb, hadc⟩ := ha.at_ 0 (by omega)
  obtain ⟨bd, rfl, hbdb, hbc⟩ := hb.at_ 0 (by omega)
  rw [show bd.add 0 = bd by simp [Addr.add]] at hbc
  rw [show ad.add 0 = ad by simp [Addr.add]] at hadc
  obtain ⟨ab, ao, rfl⟩ : ∃ b o, ad = ⟨b, o, none⟩ := ⟨_, _, cell_spot hadc⟩
  obtain ⟨bb, bo, rfl⟩ : ∃ b o, bd = ⟨b, o, none⟩ := ⟨_, _, cell_spot hbc⟩
  have hcne : ¬ c = 1 := by have := ha.le; omega
  have hdne : ¬ d = 25 := by have := hb.le; omega
  dsimp only at hadb hbdb
  clear hadc
  have hac := ha.le
  have hbc2 := hb.le
  have HR := Lib.hid (laneRd_len hk hv)
  have HA := Lib.hid ha
  have HB := Lib.hid hb
  have H0 := Lib.hid (LnZ.start 29 w #[.slice (some ⟨ab, ao, none⟩) k.length c, .slice (some ⟨bb, bo, none⟩) v.length d])
  have g1 : ((k.length : Int) != 33) = false := by rw [bne_eq_false_iff_eq]; omega
  have g2 : ((v.length : Int) != 37) = false := by rw [bne_eq_false_iff_eq]; omega
  have k1 : 33 ≤ k.length := by omega
  have k2 : k.length ≤ 33 := by omega
  have v1 : 37 ≤ v.length := by omega
  have v2 : v.length ≤ 37 := by omega
  have i1 : (1 : Int) ≤ (k.length : Int) := by omega
  have i2 : (k.length : Int) ≤ (c : Int) := by omega
  have i3 : (0 : Int) < (v.length : Int) := by omega
  have i4 : (25 : Int) ≤ (v.length : Int) := by omega
  have i5 : (v.length : Int) ≤ (d : Int) := by omega
  clear hk hv ha hb
  have BY := Lib.hid (fun W h => bytes (some ⟨ab, ao + 1, none⟩) (c - 1) (k.drop 1) W h)
  have bd0 := bs_drop HA.out (n := 1) (by omega)
  rw [show (⟨ab, ao, none⟩ : Addr).add 1 = ⟨ab, ao + 1, none⟩ by simp [Addr.add]] at bd0
  have BD := Lib.hid bd0
  clear bd0
  have hdl : (k.drop 1).length = k.length - 1 := List.length_drop ..
  rw [hdl] at BY
  have c0 : val (cutN v 0 1) = (v.getD 0 0).toNat := by
    obtain ⟨x, r, rfl⟩ : ∃ x r, v = x :: r := by
      cases v with
      | nil => simp at v1
      | cons x r => exact ⟨x, r, rfl⟩
    simp [cutN, val]
  have hb0 := (v.getD 0 0).toNat_lt
  generalize (v.getD 0 0).toNat = x0 at *
  have HC0 := Lib.hid c0
  generalize hkt : k.drop 1 = kt at *
  have HKT := Lib.hid hkt
  have HDL := Lib.hid hdl
  clear c0 hdl hkt
  have XB := Lib.hid (laneRd_b k v)
  have SE := Lib.hid (fun hd h0 h => stErr_of_same (d := laneRd k v) (v := v) hd h0 h)
  generalize hg : laneGet k v = got
  have HG := Lib.hid hg
  clear hg
  unfold laneGet at HG
  rw [HR.out] at HG SE XB
  have rb2 : rdAt v 1 4 < 4294967296 := Nat.lt_of_lt_of_le (rdAt_pow v 1 4) (by decide)
  have rb3 : rdAt v 5 4 < 4294967296 := Nat.lt_of_lt_of_le (rdAt_pow v 5 4) (by decide)
  rw [HC0.out, ← rdAt_cut (a := 1) (n := 4) (by omega), ← rdAt_cut (a := 5) (n := 4) (by omega), ← rdAt_cut (a := 9) (n := 8) (by omega), ← rdAt_cut (a := 17) (n := 8) (by omega)] at HG SE XB
  have R1 := Lib.hid (fun W h => read (some ⟨bb, bo, none⟩) d v 1 4 W h (by decide) (by decide))
  have R2 := Lib.hid (fun W h => read (some ⟨bb, bo, none⟩) d v 5 4 W h (by decide) (by decide))
  have R3 := Lib.hid (fun W h => read (some ⟨bb, bo, none⟩) d v 9 8 W h (by decide) (by decide))
  have R4 := Lib.hid (fun W h => read (some ⟨bb, bo, none⟩) d v 17 8 W h (by decide) (by decide))
  generalize rdAt v 1 4 = x2 at *
  generalize rdAt v 5 4 = x3 at *
  generalize rdAt v 9 8 = x4 at *
  generalize rdAt v 17 8 = x5 at *
  have bd0 := bs_drop HB.out (n := 25) (by omega)
  rw [show (⟨bb, bo, none⟩ : Addr).add 25 = ⟨bb, bo + 25, none⟩ by simp [Addr.add]] at bd0
  have BV := Lib.hid bd0
  clear bd0
  have SG := Lib.hid (fun W h => refGet (some ⟨bb, bo + 25, none⟩) (d - 25) (v.drop 25) W h)
  rw [show (v.drop 25).length = v.length - 25 from List.length_drop ..] at SG
  generalize hst : stGet (v.drop 25) = st at *
  obtain ⟨s1, s2, s3⟩ := st
  clear hst
  generalize hvt : v.drop 25 = vt at *
  clear hvt
  unfold stVal at SG
  dsimp only at HG SE XB SG
  have RD := Lib.hid (fun W a n h1 h2 h3 => read (some ⟨bb, bo, none⟩) d v a n W h1 h2 h3)
  generalize hnv : v.length = nv at *
  generalize hnk : k.length = nk at *
  have HNV := Lib.hid hnv
  have HNK := Lib.hid hnk
  clear hnv hnk
  have i6 : 0 < nv := by omega
  have hwx : IntKind.i64.wrap (x0 : Int) = x0 := IntWalk.i64_in _ (by omega)
  go_enter Try.func14, Try.ntmps14
  go_upto_region 3 with fail
  go_cut [4] (fun s wx => RCut w (.slice (some ⟨ab, ao, none⟩) nk c) (.slice (some ⟨bb, bo, none⟩) nv d) kt x0 0 0 0 0 s wx)
  case first =>
    have hlt0 := H0.out.lt
    unfold lnC at H0
    have bc := (H0.out.below.cell (p := ⟨bb, bo, none⟩) hbdb).trans hbc
    generalize (w.alloc (.cells #[.slice (some ⟨ab, ao, none⟩) nk c, .slice (some ⟨bb, bo, none⟩) nv d] 29)).alloc (.cells #[.slice none 0 0, .int .i64 0, .int .i64 0, .int .i64 0, .int .u64 0, .int .u64 0, .int .i64 0, .int .i64 0] 27) = W0 at H0 bc ⊢
    have s0 : W0.cell? ⟨w.heap.size, 0, none⟩ = some (.slice (some ⟨ab, ao, none⟩) nk c) := H0.out.cell 0
    have s1 : W0.cell? ⟨w.heap.size, 1, none⟩ = some (.slice (some ⟨bb, bo, none⟩) nv d) := H0.out.cell 1
    have hbw : ¬ bb = W0.heap.size := by have := H0.out.lt; omega
    go_region_held3 (fun w' => w'.cell? ⟨w.heap.size, 0, none⟩ = some (.slice (some ⟨ab, ao, none⟩) nk c) ∧ w'.cell? ⟨w.heap.size, 1, none⟩ = some (.slice (some ⟨bb, bo, none⟩) nv d) ∧ w'.cell? ⟨bb, bo, none⟩ = some (.int .u8 x0)) (first | go_keep | exact ⟨d0, d1, d2⟩)
      ((go_at_call 38; refine (BY.out _ (by first | exact H0.out.bs BD.out | exact (H0.out.bs BD.out).drewN _ | exact (H0.out.bs BD.out).below (below_alloc (Below.refl _ _) _) | exact ((H0.out.bs BD.out).below (below_alloc (Below.refl _ _) _)).drewN _)).mono ?_
        rintro e w1 ⟨v1', rfl, o1, hb1⟩
        obtain ⟨A1, c1, rfl, t1⟩ := o1.bs
        have h1 : LnZ 29 w w1 #[.slice (some ⟨ab, ao, none⟩) nk c, .slice (some ⟨bb, bo, none⟩) nv d] := (by first | exact H0.out.step hb1 | exact (H0.out.step (below_drewN (Below.refl _ _) _)).step hb1 | exact (H0.out.step (below_alloc (Below.refl _ _) _)).step hb1 | exact ((H0.out.step (below_alloc (Below.refl _ _) _)).step (below_drewN (Below.refl _ _) _)).step hb1)
        have d0 : w1.cell? ⟨w.heap.size, 0, none⟩ = some (.slice (some ⟨ab, ao, none⟩) nk c) := h1.cell 0
        have d1 : w1.cell? ⟨w.heap.size, 1, none⟩ = some (.slice (some ⟨bb, bo, none⟩) nv d) := h1.cell 1
        have d2 : w1.cell? ⟨bb, bo, none⟩ = some (.int .u8 x0) := (h1.below.cell (p := ⟨bb, bo, none⟩) hbdb).trans hbc
        have H1 := Lib.hid h1
        have S1 := Lib.hid t1
        have P1 := Lib.hid (show PersL _ w1 from fun g cs fr h => (hb1.block _ (blk_lt h)).trans h)
        have hbw1 : ¬ bb = w1.heap.size := (by have := h1.lt; omega)
        clear o1 hb1 t1 h1
        (try (have zA := P1.out _ _ _ (blk_new W0 _); obtain ⟨ya0, ya1, ya2, ya3, ya4, ya5, ya6, ya7, yb0, yb1, yb2, yb3, yb4, yb5, yb6, yb7⟩ := zero_cells zA; have ZA := Lib.hid zA; have nA1 : ¬ w.heap.size = W0.heap.size := (by have := H0.out.lt; omega); have nA2 : ¬ W0.heap.size = w.heap.size := (by have := H0.out.lt; omega); have nA3 : ¬ W0.heap.size = bb := (by omega); clear zA))))
    · go_wp2_with fail
      go_meet
      exact RCut.new H1.out S1.out
    · go_wp2_with fail
      go_meet
      exact RCut.mk' H1.out S1.out ZA.out H0.out.lt
  case rest =>
    obtain ⟨X, A2, c2, rfl, hz, hs2, hX, hlt⟩ := hcut
    have X0 : RCs w wc (.slice (some ⟨ab, ao, none⟩) nk c) (.slice (some ⟨bb, bo, none⟩) nv d) X A2 c2 kt x0 0 0 0 0 0 0 := ⟨hz, hs2, hX, hlt⟩
    have C0 := Lib.hid X0
    have y1 := X0.c1
    clear hz hs2 hX X0 hwx
    go_wp2_with fail
    refine (R1.out _ (C0.out.old HB.out)).mono ?_
    rintro e u1 ⟨rfl, rfl⟩
    have z := (lane_cells C0.out.bx)
    obtain ⟨-, -, m2, m3, m4, m5, -, -⟩ := z
    have ff := C0.out.free 2
    have C1 := Lib.hid (C0.out.store 2 (.int .i64 (x2 : Int)) rfl)
    have t1 := C1.out.c1
    go_wp2_with fail
    refine (R2.out _ (C1.out.old HB.out)).mono ?_
    rintro e u2 ⟨rfl, rfl⟩
    have z := (lane_cells C1.out.bx)
    obtain ⟨-, -, m2, m3, m4, m5, -, -⟩ := z
    have ff := C1.out.free 3
    have C2 := Lib.hid (C1.out.store 3 (.int .i64 (x3 : Int)) rfl)
    have t1 := C2.out.c1
    go_wp2_with fail
    refine (R3.out _ (C2.out.old HB.out)).mono ?_
    rintro e u3 ⟨rfl, rfl⟩
    have z := (lane_cells C2.out.bx)
    obtain ⟨-, -, m2, m3, m4, m5, -, -⟩ := z
    have ff := C2.out.free 4
    have C3 := Lib.hid (C2.out.store 4 (.int .u64 (x4 : Int)) rfl)
    have t1 := C3.out.c1
    go_wp2_with fail
    refine (R4.out _ (C3.out.old HB.out)).mono ?_
    rintro e u4 ⟨rfl, rfl⟩
    have z := (lane_cells C3.out.bx)
    obtain ⟨-, -, m2, m3, m4, m5, -, -⟩ := z
    have ff := C3.out.free 5
    have C4 := Lib.hid (C3.out.store 5 (.int .u64 (x5 : Int)) rfl)
    have t1 := C4.out.c1
    go_wp2_with fail
    refine (SG.out _ (C4.out.old BV.out)).mono ?_
    rintro e u5 ⟨rfl, hb⟩
    have h5 := (C4.out.step hb).step (below_alloc (Below.refl _ _) (.cells #[.int .i64 s1, .int .i64 s2] 25))
    obtain ⟨-, -, -, -, -, -, m6, m7⟩ := lane_cells h5.bx
    have f6 := h5.free 6
    have f7 := h5.free 7
    have h7 := (h5.store 6 (.int .i64 s1) (se1 := s1) rfl).store 7 (.int .i64 s2) (na1 := s2) rfl
    have e0 : (((u5.alloc (.cells #[.int .i64 s1, .int .i64 s2] 25)).setCell ⟨X, 6, none⟩ (.int .i64 s1)).setCell ⟨X, 7, none⟩ (.int .i64 s2)).cell? ⟨X, 0, none⟩ = some (.slice A2 kt.length c2) := blk_cell h7.bx 0
    have e1 : (((u5.alloc (.cells #[.int .i64 s1, .int .i64 s2] 25)).setCell ⟨X, 6, none⟩ (.int .i64 s1)).setCell ⟨X, 7, none⟩ (.int .i64 s2)).cell? ⟨X, 1, none⟩ = some (.int .i64 x0) := blk_cell h7.bx 1
    have e2 : (((u5.alloc (.cells #[.int .i64 s1, .int .i64 s2] 25)).setCell ⟨X, 6, none⟩ (.int .i64 s1)).setCell ⟨X, 7, none⟩ (.int .i64 s2)).cell? ⟨X, 2, none⟩ = some (.int .i64 x2) := blk_cell h7.bx 2
    have e3 : (((u5.alloc (.cells #[.int .i64 s1, .int .i64 s2] 25)).setCell ⟨X, 6, none⟩ (.int .i64 s1)).setCell ⟨X, 7, none⟩ (.int .i64 s2)).cell? ⟨X, 3, none⟩ = some (.int .i64 x3) := blk_cell h7.bx 3
    have e4 : (((u5.alloc (.cells #[.int .i64 s1, .int .i64 s2] 25)).setCell ⟨X, 6, none⟩ (.int .i64 s1)).setCell ⟨X, 7, none⟩ (.int .i64 s2)).cell? ⟨X, 4, none⟩ = some (.int .u64 x4) := blk_cell h7.bx 4
    have e5 : (((u5.alloc (.cells #[.int .i64 s1, .int .i64 s2] 25)).setCell ⟨X, 6, none⟩ (.int .i64 s1)).setCell ⟨X, 7, none⟩ (.int .i64 s2)).cell? ⟨X, 5, none⟩ = some (.int .u64 x5) := blk_cell h7.bx 5
    have e6 : (((u5.alloc (.cells #[.int .i64 s1, .int .i64 s2] 25)).setCell ⟨X, 6, none⟩ (.int .i64 s1)).setCell ⟨X, 7, none⟩ (.int .i64 s2)).cell? ⟨X, 6, none⟩ = some (.int .i64 s1) := blk_cell h7.bx 6
    have e7 : (((u5.alloc (.cells #[.int .i64 s1, .int .i64 s2] 25)).setCell ⟨X, 6, none⟩ (.int .i64 s1)).setCell ⟨X, 7, none⟩ (.int .i64 s2)).cell? ⟨X, 7, none⟩ = some (.int .i64 s2) := blk_cell h7.bx 7
    have C7 := Lib.hid h7
    have P := Lib.hid (refPutLane_any A2 c2 ⟨kt, x0, x2, x3, x4, x5, s1, s2⟩ (((u5.alloc (.cells #[.int .i64 s1, .int .i64 s2] 25)).setCell ⟨X, 6, none⟩ (.int .i64 s1)).setCell ⟨X, 7, none⟩ (.int .i64 s2)) h7.bs XB.out)
    clear hb h5 h7 t1
    unfold laneV at P
    generalize putLane ⟨kt, (x0 : Int), (x2 : Int), (x3 : Int), x4, x5, s1, s2⟩ = pl at *
    obtain ⟨k', v', code⟩ := pl
    dsimp only at P HG SE
    go_wp2_with fail
    refine P.out.mono ?_
    rintro e w4 ⟨v1, v2, rfl, o1, o2, hb4⟩
    obtain ⟨B1, d1, rfl, q1⟩ := o1.bs
    obtain ⟨B2, d2, rfl, q2⟩ := o2.bs
    have hb5 := below_alloc hb4 (.cells #[.slice B1 k'.length d1, .slice B2 v'.length d2] 29)
    have hb6 := below_alloc (Below.refl w4.heap.size w4) (.cells #[.slice B1 k'.length d1, .slice B2 v'.length d2] 29)
    have h8 := C7.out.step hb5
    have y0 := h8.c0
    have y1 := h8.c1
    have S := sameRow B1 B2 (some ⟨ab, ao, none⟩) (some ⟨bb, bo, none⟩) d1 d2 c d k' v' k v _ (q1.below hb6) (q2.below hb6) (h8.old HA.out) (h8.old HB.out)
    rw [HNK.out, HNV.out] at S
    have C8 := Lib.hid h8
    have SS := Lib.hid S
    clear o1 o2 hb4 q1 q2 hb5 hb6 h8 S e0 e1 e2 e3 e4 e5 e6 e7
    generalize hsm : (decide (k' = k) && decide (v' = v)) = sm at *
    go_wp2_with fail
    refine SS.out.mono ?_
    rintro e w6 ⟨rfl, hb7⟩
    have h9 := C8.out.step hb7
    obtain ⟨p0, p1, p2, p3, p4, p5, p6, p7⟩ := lane_cells h9.bx
    obtain ⟨r0, r1, r2, r3, r4, r5, r6, r7, z0, z1, z2, z3, z4, z5, z6, z7⟩ := zero_cells h9.h.r
    have C9 := Lib.hid h9
    clear hb7 h9 SS P SG y0 y1
    by_cases hgood : code = 0 ∧ k' = k ∧ v' = v
    · have hG := HG.out
      rw [if_pos hgood] at hG
      subst hG
      have hs3 : s3 = 0 := SE.out XB.out hgood.1 hgood.2.2
      have hsm1 : sm = true := by rw [← hsm]; simp [hgood.2.1, hgood.2.2]
      obtain ⟨rfl, _, _⟩ := hgood
      subst hs3 hsm1
      have FF := Lib.hid (C9.out.rb.fill8 A2 kt.length c2 x0 x2 x3 x4 x5 s1 s2)
      have JJ := Lib.hid (lane_cells FF.out.r)
      unfold fill8 at JJ
      clear hsm HG SE
      go_wp2_with fail
      obtain ⟨j0, j1, j2, j3, j4, j5, j6, j7⟩ := JJ.out
      exact bodyPost_ret (v := .tuple #[.agg #[.slice A2 kt.length c2, .int .i64 (x0 : Int), .int .i64 (x2 : Int), .int .i64 (x3 : Int), .int .u64 (x4 : Int), .int .u64 (x5 : Int), .int .i64 s1, .int .i64 s2], .int .i64 0]) (by simp [results, Try.results14, go_sem, j0, j1, j2, j3, j4, j5, j6, j7]) rfl ⟨A2, c2, rfl, FF.out.bs, FF.out.below⟩
    · have hG := HG.out
      rw [if_neg hgood] at hG
      subst hG
      have FF := Lib.hid (C9.out.rb.fill8 none 0 0 0 0 0 0 0 0 0)
      have JJ := Lib.hid (lane_cells FF.out.r)
      unfold fill8 at JJ
      have hcs : (code != 0) = true ∨ ((code != 0) = false ∧ (s3 != 0) = true) ∨ ((code != 0) = false ∧ (s3 != 0) = false ∧ sm = false) := by
        by_cases h1 : code = 0
        · by_cases h2 : s3 = 0
          · refine .inr (.inr ⟨by simp [h1], by simp [h2], ?_⟩)
            rw [← hsm, Bool.and_eq_false_iff]
            by_cases h : k' = k
            · exact .inr (decide_eq_false (fun h' => hgood ⟨h1, h, h'⟩))
            · exact .inl (decide_eq_false h)
          · exact .inr (.inl ⟨by simp [h1], by simp [h2]⟩)
        · exact .inl (by simp [h1])
      clear hsm HG SE hgood
      rcases hcs with h1 | ⟨h1, h2⟩ | ⟨h1, h2, rfl⟩
      all_goals
        go_wp2_with fail
        obtain ⟨j0, j1, j2, j3, j4, j5, j6, j7⟩ := JJ.out
        exact bodyPost_ret (v := .tuple #[.agg #[.slice none 0 0, .int .i64 0, .int .i64 0, .int .i64 0, .int .u64 0, .int .u64 0, .int .i64 0, .int .i64 0], .int .i64 114]) (by simp [results, Try.results14, go_sem, j0, j1, j2, j3, j4, j5, j6, j7]) rfl ⟨none, 0, rfl, Bs.nil _ _ _, FF.out.below⟩
theorem refGetLane_any (A B : Option Addr) (c d : Nat) (k v : List UInt8) (w : World) (ha : Bs w A c k) (hb : Bs w B d v) :
    Calls Try.prog 14 #[.agg #[.slice A k.length c, .slice B v.length d]] w (GotL w (laneGet k v)) := by
  by_cases h : k.length = 33 ∧ v.length = 37
  · exact refGetLane_len A B c d k v w ha hb h.1 h.2
  · have h2 : k.length ≠ 33 ∨ v.length ≠ 37 := by omega
    rw [laneGet_bad h2]
    exact refGetLane_bad A B c d k v w ha hb h2
end Go.Proofs.Ytgbjhlkjceonpaa.Help
