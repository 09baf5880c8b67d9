/- The walk of PutLane. -/
import Derived.Test.YtgbjhlkjceonpaaLanP
namespace Go.Proofs.Ytgbjhlkjceonpaa.Help
open Go.RowKit Go.Proofs.Ytgbjhlkjceonpaa.K
set_option linter.unusedVariables false

/-- the box of a struct that came in by value -/
structure Box (t : TypeId) (w w' : World) (cs : Array Value) : Prop where
  b : w'.heap[w.heap.size]? = some (.cells cs t (0, 0))
  below : Below w.heap.size w w'
section
variable {t : TypeId} {w w' w2 : World} {cs : Array Value}
theorem Box.start (t : TypeId) (w : World) (cs : Array Value) : Box t w (w.alloc (.cells cs t)) cs := ⟨blk_new _ _, below_alloc (Below.refl _ _) _⟩
theorem Box.step (h : Box t w w' cs) (hb : Below w'.heap.size w' w2) : Box t w w2 cs := ⟨(hb.block _ (blk_lt h.b)).trans h.b, below_step h.below hb⟩
theorem Box.drewN (h : Box t w w' cs) (n : Nat) : Box t w (w'.drewN n) cs := ⟨h.b, below_drewN h.below n⟩
theorem Box.alloc (h : Box t w w' cs) (o : Obj) : Box t w (w'.alloc o) cs := h.step (below_alloc (Below.refl _ _) o)
theorem Box.only {T : Nat → Prop} (h : Box t w w' cs) (k : Only w' w2 T) (hT : ∀ i, T i → w.heap.size < i) : Box t w w2 cs :=
  ⟨k.blk h.b (fun h2 => by have := hT _ h2; omega), below_only h.below k (fun i hi => Nat.le_of_lt (hT i hi))⟩
theorem Box.cell (h : Box t w w' cs) (j : Nat) : w'.cell? ⟨w.heap.size, j, none⟩ = cs[j]? := blk_cell h.b j
theorem Box.free (h : Box t w w' cs) (j : Nat) : w'.frozen? ⟨w.heap.size, j, none⟩ = false := blk_free h.b j
theorem Box.bs (h : Box t w w' cs) {A : Option Addr} {c : Nat} {l : List UInt8} (hs : Bs w A c l) : Bs w' A c l := hs.below h.below
theorem Box.lt (h : Box t w w' cs) : w.heap.size < w'.heap.size := blk_lt h.b
end
/-- two boxes: the struct that came in, and the row that is answered -/
structure LnS (t : TypeId) (w w' : World) (cs : Array Value) : Prop where
  b : w'.heap[w.heap.size]? = some (.cells cs t (0, 0))
  r : w'.heap[w.heap.size + 1]? = some (.cells #[.slice none 0 0, .slice none 0 0] 29 (0, 0))
  below : Below w.heap.size w w'
section
variable {t : TypeId} {w w' w2 : World} {cs : Array Value}
theorem LnS.start (t : TypeId) (w : World) (cs : Array Value) : LnS t w ((w.alloc (.cells cs t)).alloc (.cells #[.slice none 0 0, .slice none 0 0] 29)) cs :=
  ⟨blk_alloc (blk_new _ _) _, by have := blk_new (w.alloc (.cells cs t)) (.cells #[.slice none 0 0, .slice none 0 0] 29); simpa using this, below_alloc (below_alloc (Below.refl _ _) _) _⟩
theorem LnS.step (h : LnS t w w' cs) (hb : Below w'.heap.size w' w2) : LnS t w w2 cs := ⟨(hb.block _ (blk_lt h.b)).trans h.b, (hb.block _ (blk_lt h.r)).trans h.r, below_step h.below hb⟩
theorem LnS.drewN (h : LnS t w w' cs) (n : Nat) : LnS t w (w'.drewN n) cs := ⟨h.b, h.r, below_drewN h.below n⟩
theorem LnS.alloc (h : LnS t w w' cs) (o : Obj) : LnS t w (w'.alloc o) cs := h.step (below_alloc (Below.refl _ _) o)
theorem LnS.only {T : Nat → Prop} (h : LnS t w w' cs) (k : Only w' w2 T) (hT : ∀ i, T i → w.heap.size + 1 < i) : LnS t w w2 cs :=
  ⟨k.blk h.b (fun h2 => by have := hT _ h2; omega), k.blk h.r (fun h2 => by have := hT _ h2; omega), below_only h.below k (fun i hi => by have := hT i hi; omega)⟩
theorem LnS.cell (h : LnS t w w' cs) (j : Nat) : w'.cell? ⟨w.heap.size, j, none⟩ = cs[j]? := blk_cell h.b j
theorem LnS.bs (h : LnS t w w' cs) {A : Option Addr} {c : Nat} {l : List UInt8} (hs : Bs w A c l) : Bs w' A c l := hs.below h.below
theorem LnS.lt (h : LnS t w w' cs) : w.heap.size + 1 < w'.heap.size := blk_lt h.r
end
theorem row_done0 {t : TypeId} {w w1 : World} {cs : Array Value} (h : LnS t w w1 cs) :
    Below w.heap.size w ((w1.setCell ⟨w.heap.size + 1, 0, none⟩ (.slice none 0 0)).setCell ⟨w.heap.size + 1, 1, none⟩ (.slice none 0 0)) :=
  (h.below.setCell (p := ⟨w.heap.size + 1, 0, none⟩) (by simp) _).setCell (p := ⟨w.heap.size + 1, 1, none⟩) (by simp) _
/-- the two cells of a result behind a box -/
theorem row_done1 {t : TypeId} {w w2 : World} {cs : Array Value} (h : LnS t w w2 cs) {A B : Option Addr} {a b c d : Nat} {k v : List UInt8} (h1 : Own w2 (w.heap.size + 2) (.slice A a c) k) (h2 : Own w2 (w.heap.size + 2) (.slice B b d) v) (code : Int) :
    RowRet w k v code (.returned (.tuple #[.agg #[.slice A a c, .slice B b d], .int .i64 code])) ((w2.setCell ⟨w.heap.size + 1, 0, none⟩ (.slice A a c)).setCell ⟨w.heap.size + 1, 1, none⟩ (.slice B b d)) := by
  have ho : Only w2 ((w2.setCell ⟨w.heap.size + 1, 0, none⟩ (.slice A a c)).setCell ⟨w.heap.size + 1, 1, none⟩ (.slice B b d)) (fun k => k = w.heap.size + 1) :=
    ((Only.refl w2 (fun k => k = w.heap.size + 1)).setCell (p := ⟨w.heap.size + 1, 0, none⟩) (.inl rfl) _).setCell (p := ⟨w.heap.size + 1, 1, none⟩) (.inl rfl) _
  refine ⟨_, _, rfl, (h1.only ho (fun i hi e => ?_)).mono (by omega), (h2.only ho (fun i hi e => ?_)).mono (by omega), below_only h.below ho (fun i hi => by rw [hi]; omega)⟩
  · have := h1.base_le hi; omega
  · have := h2.base_le hi; omega
/-- ways in which a lane may not be put -/
theorem lane_cases (d : LaneD) : (((d.key.length : Int) != 32) = true ∧ putLane d = ([], [], 114)) ∨ (((d.key.length : Int) != 32) = false ∧ d.side ≠ 0 ∧ d.side ≠ 1 ∧ putLane d = ([], [], 114)) ∨
    (((d.key.length : Int) != 32) = false ∧ (d.side = 0 ∨ d.side = 1) ∧ (
      (d.cur < 1 ∧ putLane d = ([], [], 114)) ∨ (1 ≤ d.cur ∧ 2147483647 < d.cur ∧ putLane d = ([], [], 114)) ∨
      (1 ≤ d.cur ∧ d.cur ≤ 2147483647 ∧ d.next < 0 ∧ putLane d = ([], [], 114)) ∨ (1 ≤ d.cur ∧ d.cur ≤ 2147483647 ∧ 0 ≤ d.next ∧ 2147483647 < d.next ∧ putLane d = ([], [], 114)) ∨
      (1 ≤ d.cur ∧ d.cur ≤ 2147483647 ∧ 0 ≤ d.next ∧ d.next ≤ 2147483647 ∧ stV d.sec d.nano = false ∧ putLane d = ([], [], 114)))) ∨ laneOk d := by
  by_cases h : laneOk d
  · exact .inr (.inr (.inr h))
  · have hp := putLane_no h
    by_cases h1 : d.key.length = 32
    · have e1 : ((d.key.length : Int) != 32) = false := by rw [bne_eq_false_iff_eq]; omega
      by_cases h2 : d.side = 0 ∨ d.side = 1
      · refine .inr (.inr (.inl ⟨e1, h2, ?_⟩))
        by_cases h3 : d.cur < 1
        · exact .inl ⟨h3, hp⟩
        by_cases h4 : 2147483647 < d.cur
        · exact .inr (.inl ⟨by omega, h4, hp⟩)
        by_cases h5 : d.next < 0
        · exact .inr (.inr (.inl ⟨by omega, by omega, h5, hp⟩))
        by_cases h6 : 2147483647 < d.next
        · exact .inr (.inr (.inr (.inl ⟨by omega, by omega, by omega, h6, hp⟩)))
        · refine .inr (.inr (.inr (.inr ⟨by omega, by omega, by omega, by omega, ?_, hp⟩)))
          cases hv : stV d.sec d.nano
          · rfl
          · exact absurd ⟨h1, h2, by omega, by omega, by omega, by omega, hv⟩ h
      · exact .inr (.inl ⟨e1, fun e => h2 (.inl e), fun e => h2 (.inr e), hp⟩)
    · exact .inl ⟨by rw [bne_iff_ne]; omega, hp⟩

set_option maxRecDepth 100000 in
set_option maxHeartbeats 1000000 in
theorem putLane_any (A : Option Addr) (c : Nat) (d : LaneD) (w : World) (hs : Bs w A c d.key) (hd : LaneB d) :
    Calls Try.prog 8 #[laneV A c d] w (RowRet w (putLane d).1 (putLane d).2.1 (putLane d).2.2) := by
  obtain ⟨key, side, cur, next, sc, ceil, sec, nano⟩ := d
  unfold laneV
  have hcs := lane_cases ⟨key, side, cur, next, sc, ceil, sec, nano⟩
  obtain ⟨b1, b2, b3⟩ := hd
  dsimp only at *
  have hmx := hs.max
  have HSEC := Lib.hid b3
  clear b3
  rcases hcs with ⟨g1, e⟩ | ⟨g1, g2, g3, e⟩ | ⟨g1, g2, h⟩ | hok
  · rw [e]
    clear e hs b1 b2
    generalize key.length = n at *
    go_enter Try.func8, Try.ntmps8
    go_wp2_with fail
    exact bodyPost_ret (v := .tuple #[.agg #[.slice none 0 0, .slice none 0 0], .int .i64 114]) (by simp [results, Try.results8, go_sem]) rfl ⟨_, _, rfl, Own.nil _ _, Own.nil _ _, below_alloc (below_alloc (Below.refl _ _) _) _⟩
  · rw [e]
    clear e hs b1 b2
    generalize key.length = n at *
    go_enter Try.func8, Try.ntmps8
    go_wp2_with fail
    exact bodyPost_ret (v := .tuple #[.agg #[.slice none 0 0, .slice none 0 0], .int .i64 114]) (by simp [results, Try.results8, go_sem]) rfl ⟨_, _, rfl, Own.nil _ _, Own.nil _ _, below_alloc (below_alloc (Below.refl _ _) _) _⟩
  · clear hs
    generalize key.length = n at *
    rcases g2 with rfl | rfl
    all_goals
      rcases h with ⟨g3, e⟩ | ⟨g3, g4, e⟩ | ⟨g3, g4, g5, e⟩ | ⟨g3, g4, g5, g6, e⟩ | ⟨g3, g4, g5, g6, hv, e⟩
      all_goals rw [e]
      all_goals clear e
      · go_enter Try.func8, Try.ntmps8
        go_wp2_with fail
        exact bodyPost_ret (v := .tuple #[.agg #[.slice none 0 0, .slice none 0 0], .int .i64 114]) (by simp [results, Try.results8, go_sem]) rfl ⟨_, _, rfl, Own.nil _ _, Own.nil _ _, below_alloc (below_alloc (Below.refl _ _) _) _⟩
      · go_enter Try.func8, Try.ntmps8
        go_wp2_with fail
        exact bodyPost_ret (v := .tuple #[.agg #[.slice none 0 0, .slice none 0 0], .int .i64 114]) (by simp [results, Try.results8, go_sem]) rfl ⟨_, _, rfl, Own.nil _ _, Own.nil _ _, below_alloc (below_alloc (Below.refl _ _) _) _⟩
      · go_enter Try.func8, Try.ntmps8
        go_wp2_with fail
        exact bodyPost_ret (v := .tuple #[.agg #[.slice none 0 0, .slice none 0 0], .int .i64 114]) (by simp [results, Try.results8, go_sem]) rfl ⟨_, _, rfl, Own.nil _ _, Own.nil _ _, below_alloc (below_alloc (Below.refl _ _) _) _⟩
      · go_enter Try.func8, Try.ntmps8
        go_wp2_with fail
        exact bodyPost_ret (v := .tuple #[.agg #[.slice none 0 0, .slice none 0 0], .int .i64 114]) (by simp [results, Try.results8, go_sem]) rfl ⟨_, _, rfl, Own.nil _ _, Own.nil _ _, below_alloc (below_alloc (Below.refl _ _) _) _⟩
      · have V := Lib.hid (fun w => stampValid sec nano w HSEC.out)
        rw [hv] at V
        have HST := Lib.hid (fun cs => LnS.start 27 w cs)
        clear hv
        go_enter Try.func8, Try.ntmps8
        go_wp2_with fail
        refine (V.out _).mono ?_
        rintro e w1 ⟨rfl, hb1⟩
        have h1 := (HST.out _).step hb1
        have r0 : w1.cell? ⟨w.heap.size + 1, 0, none⟩ = some (.slice none 0 0) := blk_cell h1.r 0
        have r1 : w1.cell? ⟨w.heap.size + 1, 1, none⟩ = some (.slice none 0 0) := blk_cell h1.r 1
        have r2 := blk_free h1.r 0
        have r3 := blk_free h1.r 1
        have f := blk_set (blk_set h1.r 0 (.slice none 0 0)) 1 (.slice none 0 0)
        have f0 := Lib.hid ((blk_cell f 0).trans (b := some (Value.slice none 0 0)) rfl)
        have f1 := Lib.hid ((blk_cell f 1).trans (b := some (Value.slice none 0 0)) rfl)
        have HB1 := Lib.hid (row_done0 h1)
        clear hb1 h1 HST f
        go_wp2_with fail
        exact bodyPost_ret (v := .tuple #[.agg #[.slice none 0 0, .slice none 0 0], .int .i64 114]) (by simp [results, Try.results8, go_sem, f0.out, f1.out]) rfl ⟨_, _, rfl, Own.nil _ _, Own.nil _ _, HB1.out⟩
  · obtain ⟨g1, g2, g3, g4, g5, g6, hv⟩ := hok
    dsimp only at *
    obtain ⟨cu, rfl⟩ : ∃ n : Nat, cur = n := ⟨cur.toNat, by omega⟩
    obtain ⟨ne, rfl⟩ : ∃ n : Nat, next = n := ⟨next.toNat, by omega⟩
    have hst : 0 ≤ sec ∧ 0 ≤ nano ∧ nano ≤ 999999999 := by unfold stV at hv; simp at hv; omega
    obtain ⟨se, rfl⟩ : ∃ n : Nat, sec = n := ⟨sec.toNat, by omega⟩
    obtain ⟨na, rfl⟩ : ∃ n : Nat, nano = n := ⟨nano.toNat, by omega⟩
    obtain ⟨sd, rfl, hsd⟩ : ∃ n : Nat, side = n ∧ (n = 0 ∨ n = 1) := ⟨side.toNat, by omega, by omega⟩
    rw [putLane_yes ⟨g1, by simpa using g2, g3, g4, g5, g6, hv⟩]
    have V := Lib.hid (fun w => stampValid se na w HSEC.out)
    rw [hv] at V
    have T := Lib.hid (fun w => stampPut_yes se na w (by have := HSEC.out; omega) (by omega))
    have H0 := Lib.hid (LnS.start 27 w #[.slice A key.length c, .int .i64 sd, .int .i64 cu, .int .i64 ne, .int .u64 (sc : Int), .int .u64 (ceil : Int), .int .i64 se, .int .i64 na])
    have HS := Lib.hid hs
    have HL := Lib.hid g1
    have hn : ((key.length : Int) != 32) = false := by rw [bne_eq_false_iff_eq]; omega
    clear hs hv hst g1
    have BL : Hid (∀ w1 : World, Blk (w1.alloc (.cells #[.int .u8 (sd : Int)] 5)) w1.heap.size [UInt8.ofNat sd]) := by
      intro w1
      have h := blk_new w1 (.cells #[.int .u8 (sd : Int)] 5)
      rcases hsd with rfl | rfl <;> exact h
    dsimp only
    have hsd3 : (((sd : Int) != 0) = false ∧ ((sd : Int) != 0) = ((sd : Int) != 0)) ∨ (((sd : Int) != 0) = true ∧ ((sd : Int) != 1) = false) := by
      rcases hsd with rfl | rfl
      · exact .inl ⟨rfl, rfl⟩
      · exact .inr ⟨rfl, rfl⟩
    have e1 : (sd : Int).toNat = sd := by omega
    have e2 : (cu : Int).toNat = cu := by omega
    have e3 : (ne : Int).toNat = ne := by omega
    have e4 : (se : Int).toNat = se := by omega
    have e5 : (na : Int).toNat = na := by omega
    rw [e1, e2, e3, e4, e5]
    have hsd1 : sd ≤ 1 := by omega
    have d1 : decide ((cu : Int) < 1) = false := decide_eq_false (by omega)
    have d2 : decide (2147483647 < (cu : Int)) = false := decide_eq_false (by omega)
    have d3 : decide ((ne : Int) < 0) = false := decide_eq_false (by omega)
    have d4 : decide (2147483647 < (ne : Int)) = false := decide_eq_false (by omega)
    clear e1 e2 e3 e4 e5 hsd g2
    generalize hVV : laneVal sd cu ne sc ceil se na = VV
    generalize hKK : [76] ++ key = KK
    have HV := Lib.hid hVV
    have HK := Lib.hid hKK
    clear hVV hKK
    unfold laneVal at HV
    generalize UInt8.ofNat sd = y at *
    rcases hsd3 with ⟨q1, q2⟩ | ⟨q1, q2⟩
    all_goals
      go_enter Try.func8, Try.ntmps8
      go_wp2_with fail
      refine (V.out _).mono ?_
      rintro e w1 ⟨rfl, hb1⟩
      have h1 := H0.out.step hb1
      have a0 : w1.cell? ⟨w.heap.size, 1, none⟩ = some (.int .i64 sd) := h1.cell 1
      have h2 := h1.alloc (.cells #[.int .u8 (sd : Int)] 5)
      have a1 : (w1.alloc (.cells #[.int .u8 (sd : Int)] 5)).cell? ⟨w.heap.size, 2, none⟩ = some (.int .i64 cu) := h2.cell 2
      have H1 := Lib.hid h1
      have H2 := Lib.hid h2
      clear hb1 h1 h2
      go_wp2_with fail
      refine (Bits.put_uint32 (some ⟨w1.heap.size, 0, none⟩) 1 [y] cu _ ((BL.out w1).bs (by simp)) (by simp) (by omega)).mono ?_
      rintro e w2 ⟨v2, rfl, o2, hb2⟩
      obtain ⟨A2, c2, rfl, s2⟩ := o2.bs
      have h2 := H2.out.step hb2
      have a2 : w2.cell? ⟨w.heap.size, 3, none⟩ = some (.int .i64 ne) := h2.cell 3
      have S2 := Lib.hid s2
      have H3 := Lib.hid h2
      clear s2 h2 o2 hb2 a0 a1
      have n2 : ([y] ++ be 4 cu).length ≤ 5 := by simp [be_len]
      generalize [y] ++ be 4 cu = l2 at *
      go_wp2_with fail
      refine (Bits.put_uint32 A2 c2 l2 ne _ S2.out (by omega) (by omega)).mono ?_
      rintro e w3 ⟨v3, rfl, o3, hb3⟩
      obtain ⟨A3, c3, rfl, s3⟩ := o3.bs
      have h3 := H3.out.step hb3
      have a3 : w3.cell? ⟨w.heap.size, 4, none⟩ = some (.int .u64 sc) := h3.cell 4
      have S3 := Lib.hid s3
      have H4 := Lib.hid h3
      clear s3 h3 o3 hb3 a2
      have n3 : (l2 ++ be 4 ne).length ≤ 9 := by have := n2; simp [be_len]; omega
      generalize l2 ++ be 4 ne = l3 at *
      go_wp2_with fail
      refine (Bits.put_uint64 A3 c3 l3 sc _ S3.out (by omega) (by omega)).mono ?_
      rintro e w4 ⟨v4, rfl, o4, hb4⟩
      obtain ⟨A4, c4, rfl, s4⟩ := o4.bs
      have h4 := H4.out.step hb4
      have a4 : w4.cell? ⟨w.heap.size, 5, none⟩ = some (.int .u64 ceil) := h4.cell 5
      have S4 := Lib.hid s4
      have H5 := Lib.hid h4
      clear s4 h4 o4 hb4 a3
      have n4 : (l3 ++ be 8 sc).length ≤ 17 := by have := n3; simp [be_len]; omega
      generalize l3 ++ be 8 sc = l4 at *
      go_wp2_with fail
      refine (Bits.put_uint64 A4 c4 l4 ceil _ S4.out (by omega) (by omega)).mono ?_
      rintro e w5 ⟨v5, rfl, o5, hb5⟩
      obtain ⟨A5, c5, rfl, s5⟩ := o5.bs
      have h5 := H5.out.step hb5
      have b0 : w5.cell? ⟨w.heap.size, 0, none⟩ = some (.slice A key.length c) := h5.cell 0
      have b6 : w5.cell? ⟨w.heap.size, 6, none⟩ = some (.int .i64 se) := h5.cell 6
      have b7 : w5.cell? ⟨w.heap.size, 7, none⟩ = some (.int .i64 na) := h5.cell 7
      have S5 := Lib.hid s5
      have O5 := Lib.hid o5
      have Z5 := Lib.hid hb5.size
      have H6 := Lib.hid h5
      clear s5 h5 o5 hb5 a4
      have n5 : (l4 ++ be 8 ceil).length ≤ 25 := by have := n4; simp [be_len]; omega
      generalize l4 ++ be 8 ceil = l5 at *
      go_wp2_with fail
      have OW : Hid (Own ((w5.alloc (.cells #[.int .u8 76] 5)).drew) w5.heap.size (.slice (some ⟨w5.heap.size, 0, none⟩) 1 1) [76]) :=
        ((show Blk (w5.alloc (.cells #[.int .u8 76] 5)) w5.heap.size [76] from blk_new _ _).own (Nat.le_refl _) (by decide)).drewN 1
      have L7 := Lib.hid ((H6.out.alloc (.cells #[.int .u8 76] 5)).drewN 1)
      have O6 := Lib.hid ((O5.out.below (below_alloc (Below.refl _ _) (.cells #[.int .u8 76] 5))).drewN 1)
      have hlt5 := H6.out.lt
      have O5Z := Lib.hid Z5.out
      have L5 := Lib.hid (fun i hi => Own.blk_lt O5.out (i := i) hi)
      have B5 := Lib.hid (fun i hi => Own.base_le O5.out (i := i) hi)
      have Z4 := Lib.hid H5.out.lt
      go_region_held3 (fun w' => w'.cell? ⟨w.heap.size, 0, none⟩ = some (.slice A key.length c) ∧ w'.cell? ⟨w.heap.size, 6, none⟩ = some (.int .i64 se) ∧ w'.cell? ⟨w.heap.size, 7, none⟩ = some (.int .i64 na)) (first | go_keep | exact ⟨d0, d6, d7⟩ | exact ⟨e0, e6, e7⟩ | exact ⟨f0, f6, f7⟩ | exact ⟨i0, i6, i7⟩)
        (first
        | ((refine step_push (by rfl) _ _ (by rfl) (.slice A5 l5.length c5) l5 (stPut se na) A7 c7 (by rfl) (by rfl) O8.out S7.out (by rw [stPut_len]; omega) Z8.out (by rw [stPut_len]; omega) ?_
            intro A8 c8 w8 o8 k8
            rw [HV.out] at o8 ⊢
            have h8 := L8.out.only k8 (fun i hi => Nat.lt_of_lt_of_le Z4.out (B5.out i hi))
            have g0 := h8.cell 0
            have f0 : w8.cell? ⟨w.heap.size, 0, none⟩ = some (.slice A key.length c) := g0
            have f6 : w8.cell? ⟨w.heap.size, 6, none⟩ = some (.int .i64 se) := h8.cell 6
            have f7 : w8.cell? ⟨w.heap.size, 7, none⟩ = some (.int .i64 na) := h8.cell 7
            have r0 : w8.cell? ⟨w.heap.size + 1, 0, none⟩ = some (.slice none 0 0) := blk_cell h8.r 0
            have r1 : w8.cell? ⟨w.heap.size + 1, 1, none⟩ = some (.slice none 0 0) := blk_cell h8.r 1
            have z0 := blk_free h8.r 0
            have z1 := blk_free h8.r 1
            have H8 := Lib.hid h8
            have ff := blk_set (blk_set h8.r 0 (.slice A6 KK.length c6)) 1 (.slice A8 VV.length c8)
            have fb := blk_far (blk_far h8.b (p := ⟨w.heap.size + 1, 0, none⟩) (by simp) (.slice A6 KK.length c6)) (p := ⟨w.heap.size + 1, 1, none⟩) (by simp) (.slice A8 VV.length c8)
            have j0 := Lib.hid ((blk_cell ff 0).trans (b := some (Value.slice A6 KK.length c6)) rfl)
            have j1 := Lib.hid ((blk_cell ff 1).trans (b := some (Value.slice A8 VV.length c8)) rfl)
            have i0 := (blk_cell fb 0).trans (b := some (Value.slice A key.length c)) rfl
            have i6 := (blk_cell fb 6).trans (b := some (Value.int .i64 se)) rfl
            have i7 := (blk_cell fb 7).trans (b := some (Value.int .i64 na)) rfl
            clear ff fb
            have R8 := Lib.hid o8
            have Q8 := Lib.hid (Q7.out.only k8 (fun i hi e => by have := L5.out i e; have := Q7.out.base_le hi; omega))
            clear h8 g0 o8 k8))
        | (go_at_call 37
           refine (T.out _).mono ?_
           rintro e w7 ⟨v7, rfl, o7, hb7⟩
           obtain ⟨A7, c7, rfl, s7⟩ := o7.bs
           have h7 := L6.out.step hb7
           have e0 : w7.cell? ⟨w.heap.size, 0, none⟩ = some (.slice A key.length c) := h7.cell 0
           have e6 : w7.cell? ⟨w.heap.size, 6, none⟩ = some (.int .i64 se) := h7.cell 6
           have e7 : w7.cell? ⟨w.heap.size, 7, none⟩ = some (.int .i64 na) := h7.cell 7
           have L8 := Lib.hid h7
           have O8 := Lib.hid (O7.out.below hb7)
           have Q7 := Lib.hid (Q6.out.below hb7)
           have Z8 := Lib.hid (Nat.le_trans Z7.out hb7.size)
           have S7 := Lib.hid s7
           clear h7 s7 o7 hb7)
        | ((refine step_push (by rfl) _ _ (by rfl) (.slice (some ⟨w5.heap.size, 0, none⟩) 1 1) [76] key A c (by rfl) (by rfl) OW.out (L7.out.bs HS.out) (by rw [HL.out]; omega) (by simp) (by rw [HL.out]; decide) ?_
            intro A6 c6 w6 o6 k6
            rw [HK.out] at o6 ⊢
            have h6 := L7.out.only k6 (fun i hi => by simp [Value.ownBlock] at hi; omega)
            have d0 : w6.cell? ⟨w.heap.size, 0, none⟩ = some (.slice A key.length c) := h6.cell 0
            have d6 : w6.cell? ⟨w.heap.size, 6, none⟩ = some (.int .i64 se) := h6.cell 6
            have d7 : w6.cell? ⟨w.heap.size, 7, none⟩ = some (.int .i64 na) := h6.cell 7
            have L6 := Lib.hid h6
            have Q6 := Lib.hid o6
            have O7 := Lib.hid (O6.out.only k6 (fun i hi e => by have := L5.out i hi; simp [Value.ownBlock] at e; omega))
            have Z7 : Hid (w4.heap.size ≤ w6.heap.size) := Lib.hid (Nat.le_trans (by have := O5Z.out; simp; omega) k6.size)
            clear h6 o6 k6)))
      go_wp2_with fail
      exact bodyPost_ret (v := .tuple #[.agg #[.slice A6 KK.length c6, .slice A8 VV.length c8], .int .i64 0]) (by simp [results, Try.results8, go_sem, j0.out, j1.out]) rfl (row_done1 H8.out (Q8.out.mono (by have := H6.out.lt; omega)) (R8.out.mono (by have := H5.out.lt; omega)) 0)
end Go.Proofs.Ytgbjhlkjceonpaa.Help
