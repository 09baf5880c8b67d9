/- Contracts of the functions that RowsSets reaches: part 6 of 6. -/
import Derived.Test.YtgbjhlkjceonpaaGreatRowsSetsB5
/- Copies of lists of peers, of lanes. -/
namespace Go.Proofs.YtgbjhlkjceonpaaGreat.Lst
open Go.RowKit Go.Proofs.YtgbjhlkjceonpaaGreat.K Go.Proofs.YtgbjhlkjceonpaaGreat.Help Go.Proofs.YtgbjhlkjceonpaaGreat.Pfx Go.Proofs.YtgbjhlkjceonpaaGreat.Peer
set_option linter.unusedVariables false

/-- new memory may be appended to whatever row stood before -/
theorem new_peer {W W2 : World} {A B : Option Addr} {a b : Nat} {x : PeerD} {N : Nat → Prop} (h1 : Bs W2 A a x.key) (h2 : Ps W2 B b x.ps) (n1 : Nw W A) (n2 : Nw W B) (hv : ∀ k, N k → k < W.heap.size) :
    PeerE.R W2 N [Value.int .i64 x.link, .slice A x.key.length a, .slice B x.ps.length b] x := ⟨A, a, B, b, rfl, Bs.fresh h1 n1 hv, Ps.fresh h2 n2 hv⟩
theorem new_lane {W W2 : World} {A : Option Addr} {a : Nat} {x : LaneD} {N : Nat → Prop} (h1 : Bs W2 A a x.key) (h2 : LaneB x) (n1 : Nw W A) (hv : ∀ k, N k → k < W.heap.size) :
    LaneE.R W2 N [Value.slice A x.key.length a, .int .i64 x.side, .int .i64 x.cur, .int .i64 x.next, .int .u64 (x.sc : Int), .int .u64 (x.ceil : Int), .int .i64 x.sec, .int .i64 x.nano] x := ⟨A, a, rfl, Bs.fresh h1 n1 hv, h2⟩
set_option maxRecDepth 100000 in
set_option maxHeartbeats 2000000 in
theorem peers_any (A : Option Addr) (c : Nat) (l : List PeerD) (w : World) (hl : Lst PeerE w (fun _ => False) A c l) (hn : l.length ≤ 1000) (hps : ∀ x, x ∈ l → x.ps.length ≤ 100000) :
    Calls Tryz.prog 15 #[.slice A l.length c] w (RetL PeerE w l) := by
  have HL := Lib.hid hl
  have h1 := hl.le
  have h2 := hl.max
  have HPS := Lib.hid hps
  clear hl hps
  generalize hm : l.length = n at *
  have HN := Lib.hid hm
  clear hm
  go_enter Tryz.func15, Tryz.ntmps15
  go_wp2_with fail
  go_loopg [4, 3] n (fun gk i s3 wr => ∃ k : Nat, k ≤ n ∧ gk = n - k ∧ i = .int .i64 (k : Int) ∧ OwnL PeerE 52 wr (fun _ => False) w.heap.size s3 (l.take k) ∧ Below w.heap.size w wr)
  case atStart => exact ⟨0, by omega, rfl, rfl, OwnL.nil _ _ _ _ _, Below.refl _ _⟩
  case round =>
    obtain ⟨k, hk, rfl, rfl, ho, hb⟩ := hrel
    have hlk : (l.take k).length = k := by rw [List.length_take, HN.out]; omega
    obtain ⟨AM, cM, rfl⟩ := ho.slice
    have HO := Lib.hid ho
    have HW := Lib.hid hb
    clear ho hb
    by_cases hlt : k < n
    · have i1 : (k : Int) < (n : Int) := by omega
      have i0 : (0 : Int) ≤ (k : Int) := by omega
      have HT : Hid (l.take (k + 1) = l.take k ++ [l.getD k zeroPeer]) := by
        rw [Hid, List.take_succ_eq_append_getElem (by rw [HN.out]; exact hlt)]; simp [show k < l.length by rw [HN.out]; exact hlt]
      have hxg : l[k]? = some (l.getD k zeroPeer) := getD_get zeroPeer (by rw [HN.out]; exact hlt)
      obtain ⟨bk, off, A1, a1, B1, b1, rfl, hbk, c0, c1, c2, s1, s2⟩ := HL.out.peer k _ hxg
      have hpl := HPS.out _ (List.mem_of_getElem? hxg)
      obtain ⟨x, hx⟩ : ∃ y, l.getD k zeroPeer = y := ⟨_, rfl⟩
      rw [hx] at c0 c1 c2 s1 s2 HT hpl
      have y0 : wr.cell? ⟨bk, off + k * 3, none⟩ = some (.int .i64 x.link) := (HW.out.cell (p := ⟨bk, _, none⟩) hbk).trans c0
      have y1 : wr.cell? ⟨bk, off + k * 3 + 1, none⟩ = some (.slice A1 x.key.length a1) := (HW.out.cell (p := ⟨bk, _, none⟩) hbk).trans c1
      have y2 : wr.cell? ⟨bk, off + k * 3 + 2, none⟩ = some (.slice B1 x.ps.length b1) := (HW.out.cell (p := ⟨bk, _, none⟩) hbk).trans c2
      have P := Lib.hid (refPeer A1 B1 a1 b1 x wr (s1.1.below HW.out) (s2.1.below HW.out) hpl)
      unfold peerV at P
      have HLK := Lib.hid hlk
      clear c0 c1 c2 s1 s2 hx hxg hpl
      rw [hlk] at HO ⊢
      clear hlk
      go_wp2_with fail
      refine P.out.mono ?_
      rintro e w2 ⟨A2, a2, B2, b2, rfl, t1, t2, hb2, n1, n2⟩
      unfold peerV
      dsimp only
      have hq1 := below_alloc hb2 (.cells #[.int .i64 x.link, .slice A2 x.key.length a2, .slice B2 x.ps.length b2] 52)
      have hq2 := below_alloc hq1 (.cells #[.int .i64 x.link, .slice A2 x.key.length a2, .slice B2 x.ps.length b2] 52)
      have hq0 := below_alloc (below_alloc (Below.refl w2.heap.size w2) (.cells #[.int .i64 x.link, .slice A2 x.key.length a2, .slice B2 x.ps.length b2] 52)) (.cells #[.int .i64 x.link, .slice A2 x.key.length a2, .slice B2 x.ps.length b2] 52)
      have p0 := (blk_cell (blk_new w2 (.cells #[.int .i64 x.link, .slice A2 x.key.length a2, .slice B2 x.ps.length b2] 52)) 0).trans (b := some (Value.int .i64 x.link)) rfl
      have p1 := (blk_cell (blk_new w2 (.cells #[.int .i64 x.link, .slice A2 x.key.length a2, .slice B2 x.ps.length b2] 52)) 1).trans (b := some (Value.slice A2 x.key.length a2)) rfl
      have p2 := (blk_cell (blk_new w2 (.cells #[.int .i64 x.link, .slice A2 x.key.length a2, .slice B2 x.ps.length b2] 52)) 2).trans (b := some (Value.slice B2 x.ps.length b2)) rfl
      have HWA := Lib.hid (below_step HW.out hq2)
      have hx2 := blk_new (w2.alloc (.cells #[.int .i64 x.link, .slice A2 x.key.length a2, .slice B2 x.ps.length b2] 52)) (.cells #[.int .i64 x.link, .slice A2 x.key.length a2, .slice B2 x.ps.length b2] 52)
      rw [show (w2.alloc (.cells #[.int .i64 x.link, .slice A2 x.key.length a2, .slice B2 x.ps.length b2] 52)).heap.size = w2.heap.size + 1 by simp] at hx2
      have HX1 := Lib.hid hx2
      have HOA := Lib.hid (HO.out.below hq2)
      have HXA := Lib.hid (new_peer (W := wr) (x := x) (N := fun i => (fun _ => False) i ∨ (Value.slice AM k cM).ownBlock = some i) (t1.below hq0) (t2.below hq0) n1 n2 (fun i hi => hi.elim False.elim (fun h => HO.out.lt h)))
      clear t1 t2 hb2 hq1 hq2 hq0 n1 n2 hx2
      go_wp2_with (at_builtin; refine push (E := PeerE) 52 23 _ 56 rfl (.tmp 17) (.tmp 19) rfl Tryz.underlying23 info_peer rfl (by decide) (by decide) (by decide) (.slice AM k cM) (l.take k) x [Value.int .i64 x.link, .slice A2 x.key.length a2, .slice B2 x.ps.length b2] (w2.heap.size + 1) 1 rfl rfl HOA.out HX1.out HXA.out HWA.out.size (by rw [HLK.out]; omega) ?_ (fun _ h => h.elim); intro A4 c4 w4 o4 k4 n4; rw [HLK.out] at o4 ⊢; rw [← HT.out] at o4; have O4 := Lib.hid o4; have W4 := Lib.hid (below_only HWA.out k4 (fun i hi => HOA.out.base_le hi)); clear o4 k4 n4)
      go_roundg (n - (k + 1))
      case measure => omega
      case rel => exact ⟨k + 1, by omega, rfl, by go_num, O4.out, W4.out⟩
    · obtain rfl : k = n := by omega
      have i1 : ¬ (k : Int) < (k : Int) := by omega
      have htk : l.take k = l := List.take_of_length_le (by rw [HN.out]; omega)
      rw [hlk] at HO ⊢
      rw [htk] at HO
      clear htk hlk
      go_wp2_with fail
      go_ret
      obtain ⟨A4, c4, e, h4⟩ := HO.out.lst (N := fun _ => False) (fun _ _ h => h)
      refine ⟨A4, c4, ?_, h4, HW.out⟩
      show Ending.returned (Value.slice AM k cM) = _
      rw [e]
set_option maxRecDepth 100000 in
set_option maxHeartbeats 2000000 in
theorem lanes_any (A : Option Addr) (c : Nat) (l : List LaneD) (w : World) (hl : Lst LaneE w (fun _ => False) A c l) (hn : l.length ≤ 1000) :
    Calls Tryz.prog 16 #[.slice A l.length c] w (RetL LaneE w l) := by
  have HL := Lib.hid hl
  have h1 := hl.le
  have h2 := hl.max
  clear hl
  generalize hm : l.length = n at *
  have HN := Lib.hid hm
  clear hm
  go_enter Tryz.func16, Tryz.ntmps16
  go_wp2_with fail
  go_loopg [4, 3] n (fun gk i s3 wr => ∃ k : Nat, k ≤ n ∧ gk = n - k ∧ i = .int .i64 (k : Int) ∧ OwnL LaneE 59 wr (fun _ => False) w.heap.size s3 (l.take k) ∧ Below w.heap.size w wr)
  case atStart => exact ⟨0, by omega, rfl, rfl, OwnL.nil _ _ _ _ _, Below.refl _ _⟩
  case round =>
    obtain ⟨k, hk, rfl, rfl, ho, hb⟩ := hrel
    have hlk : (l.take k).length = k := by rw [List.length_take, HN.out]; omega
    obtain ⟨AM, cM, rfl⟩ := ho.slice
    have HO := Lib.hid ho
    have HW := Lib.hid hb
    clear ho hb
    by_cases hlt : k < n
    · have i1 : (k : Int) < (n : Int) := by omega
      have i0 : (0 : Int) ≤ (k : Int) := by omega
      have HT : Hid (l.take (k + 1) = l.take k ++ [l.getD k zeroLane]) := by
        rw [Hid, List.take_succ_eq_append_getElem (by rw [HN.out]; exact hlt)]; simp [show k < l.length by rw [HN.out]; exact hlt]
      obtain ⟨bk, off, A1, a1, rfl, hbk, c0, c1, c2, c3, c4, c5, c6, c7, s1, lb⟩ := HL.out.lane k _ (getD_get zeroLane (by rw [HN.out]; exact hlt))
      obtain ⟨x, hx⟩ : ∃ y, l.getD k zeroLane = y := ⟨_, rfl⟩
      rw [hx] at c0 c1 c2 c3 c4 c5 c6 c7 s1 lb HT
      have y0 : wr.cell? ⟨bk, off + k * 8, none⟩ = some (.slice A1 x.key.length a1) := (HW.out.cell (p := ⟨bk, _, none⟩) hbk).trans c0
      have y1 : wr.cell? ⟨bk, off + k * 8 + 1, none⟩ = some (.int .i64 x.side) := (HW.out.cell (p := ⟨bk, _, none⟩) hbk).trans c1
      have y2 : wr.cell? ⟨bk, off + k * 8 + 2, none⟩ = some (.int .i64 x.cur) := (HW.out.cell (p := ⟨bk, _, none⟩) hbk).trans c2
      have y3 : wr.cell? ⟨bk, off + k * 8 + 3, none⟩ = some (.int .i64 x.next) := (HW.out.cell (p := ⟨bk, _, none⟩) hbk).trans c3
      have y4 : wr.cell? ⟨bk, off + k * 8 + 4, none⟩ = some (.int .u64 (x.sc : Int)) := (HW.out.cell (p := ⟨bk, _, none⟩) hbk).trans c4
      have y5 : wr.cell? ⟨bk, off + k * 8 + 5, none⟩ = some (.int .u64 (x.ceil : Int)) := (HW.out.cell (p := ⟨bk, _, none⟩) hbk).trans c5
      have y6 : wr.cell? ⟨bk, off + k * 8 + 6, none⟩ = some (.int .i64 x.sec) := (HW.out.cell (p := ⟨bk, _, none⟩) hbk).trans c6
      have y7 : wr.cell? ⟨bk, off + k * 8 + 7, none⟩ = some (.int .i64 x.nano) := (HW.out.cell (p := ⟨bk, _, none⟩) hbk).trans c7
      have LB := Lib.hid lb
      have P := Lib.hid (refLane A1 a1 x wr (s1.1.below HW.out))
      unfold laneV at P
      have HLK := Lib.hid hlk
      clear c0 c1 c2 c3 c4 c5 c6 c7 s1 hx lb
      rw [hlk] at HO ⊢
      clear hlk
      go_wp2_with fail
      refine P.out.mono ?_
      rintro e w2 ⟨A2, a2, rfl, t1, hb2, n1⟩
      unfold laneV
      dsimp only
      have hq1 := below_alloc hb2 (.cells #[.slice A2 x.key.length a2, .int .i64 x.side, .int .i64 x.cur, .int .i64 x.next, .int .u64 (x.sc : Int), .int .u64 (x.ceil : Int), .int .i64 x.sec, .int .i64 x.nano] 59)
      have hq2 := below_alloc hq1 (.cells #[.slice A2 x.key.length a2, .int .i64 x.side, .int .i64 x.cur, .int .i64 x.next, .int .u64 (x.sc : Int), .int .u64 (x.ceil : Int), .int .i64 x.sec, .int .i64 x.nano] 59)
      have hq0 := below_alloc (below_alloc (Below.refl w2.heap.size w2) (.cells #[.slice A2 x.key.length a2, .int .i64 x.side, .int .i64 x.cur, .int .i64 x.next, .int .u64 (x.sc : Int), .int .u64 (x.ceil : Int), .int .i64 x.sec, .int .i64 x.nano] 59)) (.cells #[.slice A2 x.key.length a2, .int .i64 x.side, .int .i64 x.cur, .int .i64 x.next, .int .u64 (x.sc : Int), .int .u64 (x.ceil : Int), .int .i64 x.sec, .int .i64 x.nano] 59)
      have p0 := (blk_cell (blk_new w2 (.cells #[.slice A2 x.key.length a2, .int .i64 x.side, .int .i64 x.cur, .int .i64 x.next, .int .u64 (x.sc : Int), .int .u64 (x.ceil : Int), .int .i64 x.sec, .int .i64 x.nano] 59)) 0).trans (b := some (Value.slice A2 x.key.length a2)) rfl
      have p1 := (blk_cell (blk_new w2 (.cells #[.slice A2 x.key.length a2, .int .i64 x.side, .int .i64 x.cur, .int .i64 x.next, .int .u64 (x.sc : Int), .int .u64 (x.ceil : Int), .int .i64 x.sec, .int .i64 x.nano] 59)) 1).trans (b := some (Value.int .i64 x.side)) rfl
      have p2 := (blk_cell (blk_new w2 (.cells #[.slice A2 x.key.length a2, .int .i64 x.side, .int .i64 x.cur, .int .i64 x.next, .int .u64 (x.sc : Int), .int .u64 (x.ceil : Int), .int .i64 x.sec, .int .i64 x.nano] 59)) 2).trans (b := some (Value.int .i64 x.cur)) rfl
      have p3 := (blk_cell (blk_new w2 (.cells #[.slice A2 x.key.length a2, .int .i64 x.side, .int .i64 x.cur, .int .i64 x.next, .int .u64 (x.sc : Int), .int .u64 (x.ceil : Int), .int .i64 x.sec, .int .i64 x.nano] 59)) 3).trans (b := some (Value.int .i64 x.next)) rfl
      have p4 := (blk_cell (blk_new w2 (.cells #[.slice A2 x.key.length a2, .int .i64 x.side, .int .i64 x.cur, .int .i64 x.next, .int .u64 (x.sc : Int), .int .u64 (x.ceil : Int), .int .i64 x.sec, .int .i64 x.nano] 59)) 4).trans (b := some (Value.int .u64 (x.sc : Int))) rfl
      have p5 := (blk_cell (blk_new w2 (.cells #[.slice A2 x.key.length a2, .int .i64 x.side, .int .i64 x.cur, .int .i64 x.next, .int .u64 (x.sc : Int), .int .u64 (x.ceil : Int), .int .i64 x.sec, .int .i64 x.nano] 59)) 5).trans (b := some (Value.int .u64 (x.ceil : Int))) rfl
      have p6 := (blk_cell (blk_new w2 (.cells #[.slice A2 x.key.length a2, .int .i64 x.side, .int .i64 x.cur, .int .i64 x.next, .int .u64 (x.sc : Int), .int .u64 (x.ceil : Int), .int .i64 x.sec, .int .i64 x.nano] 59)) 6).trans (b := some (Value.int .i64 x.sec)) rfl
      have p7 := (blk_cell (blk_new w2 (.cells #[.slice A2 x.key.length a2, .int .i64 x.side, .int .i64 x.cur, .int .i64 x.next, .int .u64 (x.sc : Int), .int .u64 (x.ceil : Int), .int .i64 x.sec, .int .i64 x.nano] 59)) 7).trans (b := some (Value.int .i64 x.nano)) rfl
      have HWA := Lib.hid (below_step HW.out hq2)
      have hx2 := blk_new (w2.alloc (.cells #[.slice A2 x.key.length a2, .int .i64 x.side, .int .i64 x.cur, .int .i64 x.next, .int .u64 (x.sc : Int), .int .u64 (x.ceil : Int), .int .i64 x.sec, .int .i64 x.nano] 59)) (.cells #[.slice A2 x.key.length a2, .int .i64 x.side, .int .i64 x.cur, .int .i64 x.next, .int .u64 (x.sc : Int), .int .u64 (x.ceil : Int), .int .i64 x.sec, .int .i64 x.nano] 59)
      rw [show (w2.alloc (.cells #[.slice A2 x.key.length a2, .int .i64 x.side, .int .i64 x.cur, .int .i64 x.next, .int .u64 (x.sc : Int), .int .u64 (x.ceil : Int), .int .i64 x.sec, .int .i64 x.nano] 59)).heap.size = w2.heap.size + 1 by simp] at hx2
      have HX1 := Lib.hid hx2
      have HOA := Lib.hid (HO.out.below hq2)
      have HXA := Lib.hid (new_lane (W := wr) (x := x) (N := fun i => (fun _ => False) i ∨ (Value.slice AM k cM).ownBlock = some i) (t1.below hq0) LB.out n1 (fun i hi => hi.elim False.elim (fun h => HO.out.lt h)))
      clear t1 hb2 hq1 hq2 hq0 n1 hx2
      go_wp2_with (at_builtin; refine push (E := LaneE) 59 24 _ 80 rfl (.tmp 17) (.tmp 19) rfl Tryz.underlying24 info_lane rfl (by decide) (by decide) (by decide) (.slice AM k cM) (l.take k) x [Value.slice A2 x.key.length a2, .int .i64 x.side, .int .i64 x.cur, .int .i64 x.next, .int .u64 (x.sc : Int), .int .u64 (x.ceil : Int), .int .i64 x.sec, .int .i64 x.nano] (w2.heap.size + 1) 1 rfl rfl HOA.out HX1.out HXA.out HWA.out.size (by rw [HLK.out]; omega) ?_ (fun _ h => h.elim); intro A4 c4 w4 o4 k4 n4; rw [HLK.out] at o4 ⊢; rw [← HT.out] at o4; have O4 := Lib.hid o4; have W4 := Lib.hid (below_only HWA.out k4 (fun i hi => HOA.out.base_le hi)); clear o4 k4 n4)
      go_roundg (n - (k + 1))
      case measure => omega
      case rel => exact ⟨k + 1, by omega, rfl, by go_num, O4.out, W4.out⟩
    · obtain rfl : k = n := by omega
      have i1 : ¬ (k : Int) < (k : Int) := by omega
      have htk : l.take k = l := List.take_of_length_le (by rw [HN.out]; omega)
      rw [hlk] at HO ⊢
      rw [htk] at HO
      clear htk hlk
      go_wp2_with fail
      go_ret
      obtain ⟨A4, c4, e, h4⟩ := HO.out.lst (N := fun _ => False) (fun _ _ h => h)
      refine ⟨A4, c4, ?_, h4, HW.out⟩
      show Ending.returned (Value.slice AM k cM) = _
      rw [e]
end Go.Proofs.YtgbjhlkjceonpaaGreat.Lst
/- The same list of sets is the same. -/
namespace Go.Proofs.YtgbjhlkjceonpaaGreat.Lst
open Go.RowKit Go.Proofs.YtgbjhlkjceonpaaGreat.K Go.Proofs.YtgbjhlkjceonpaaGreat.Help Go.Proofs.YtgbjhlkjceonpaaGreat.Pfx Go.Proofs.YtgbjhlkjceonpaaGreat.Peer
set_option linter.unusedVariables false

/-- set i of a list -/
theorem Lst.set {w : World} {N : Nat → Prop} {A : Option Addr} {c : Nat} {l : List SetD} (h : Lst SetE w N A c l) (i : Nat) (x : SetD) (hx : l[i]? = some x) :
    ∃ bk off A1 a1 B1 b1, A = some ⟨bk, off, none⟩ ∧ bk < w.heap.size ∧ w.cell? ⟨bk, off + i * 3, none⟩ = some (.slice A1 x.1.length a1) ∧ w.cell? ⟨bk, off + i * 3 + 1, none⟩ = some (.slice B1 x.2.1.length b1) ∧ w.cell? ⟨bk, off + i * 3 + 2, none⟩ = some (.bool x.2.2)
      ∧ BsN w N A1 a1 x.1 ∧ BsN w N B1 b1 x.2.1 := by
  obtain ⟨bk, off, raw, e, hlt, _, hc, A1, a1, B1, b1, hr, h1, h2⟩ := h.at_ i x hx
  subst hr
  exact ⟨bk, off, A1, a1, B1, b1, e, hlt, hc 0 (by decide), hc 1 (by decide), hc 2 (by decide), h1, h2⟩
set_option maxRecDepth 100000 in
set_option maxHeartbeats 2000000 in
theorem sameSets_self (A B : Option Addr) (a b : Nat) (l : List SetD) (w : World) (hp : Lst SetE w (fun _ => False) A a l) (hq : Lst SetE w (fun _ => False) B b l) :
    Calls Tryz.prog 18 #[.slice A l.length a, .slice B l.length b] w (Pure w (.bool true)) := by
  have HP := Lib.hid hp
  have HQ := Lib.hid hq
  have h1 := hp.le
  have h2 := hp.max
  have h3 := hq.le
  have h4 := hq.max
  clear hp hq
  generalize hn : l.length = n at *
  have HN := Lib.hid hn
  clear hn
  go_enter Tryz.func18, Tryz.ntmps18
  go_wp2_with fail
  go_loopg [5] n (fun gk i wr => ∃ p : Nat, p ≤ n ∧ gk = n - p ∧ i = .int .i64 (p : Int) ∧ Below w.heap.size w wr)
  case atStart => exact ⟨0, by omega, rfl, rfl, Below.refl _ _⟩
  case round =>
    obtain ⟨p, hp, rfl, rfl, hb⟩ := hrel
    have HW := Lib.hid hb
    have HG0 := Lib.hid (Since.drew hb)
    clear hb
    by_cases hlt : p < n
    · have i1 : (p : Int) < (n : Int) := by omega
      have i0 : (0 : Int) ≤ (p : Int) := by omega
      obtain ⟨bk, off, A1, a1, B1, b1, rfl, hbk, c0, c1, c2, s1, s2⟩ := HP.out.set p _ (getD_get zeroSet (by rw [HN.out]; exact hlt))
      obtain ⟨ck, cff, A2, a2, B2, b2, rfl, hck, d0, d1, d2, u1, u2⟩ := HQ.out.set p _ (getD_get zeroSet (by rw [HN.out]; exact hlt))
      have y0 := Since.cell c0 hbk
      have z0 := Since.cell d0 hck
      have Y1 := Lib.hid (Since.cell c1 hbk)
      have Z1 := Lib.hid (Since.cell d1 hck)
      have Y2 := Lib.hid (Since.cell c2 hbk)
      have Z2 := Lib.hid (Since.cell d2 hck)
      have V1 := Lib.hid (Since.bytes s1.1 u1.1)
      have V2 := Lib.hid (Since.bytes s2.1 u2.1)
      rw [show decide ((l.getD p zeroSet).1 = (l.getD p zeroSet).1) = true by simp] at V1
      rw [show decide ((l.getD p zeroSet).2.1 = (l.getD p zeroSet).2.1) = true by simp] at V2
      clear c0 c1 c2 d0 d1 d2 s1 s2 u1 u2
      generalize (l.getD p zeroSet).1.length = q1 at *
      generalize (l.getD p zeroSet).2.1.length = q2 at *
      generalize (l.getD p zeroSet).2.2 = q3 at *
      go_wp2_with fail
      refine wp_region_quiet_cls (Since w) (by kernel_rfl) (by kernel_rfl) HG0.out ?_
      repeat (go_big_quiet_step ((go_at_call 57; exact calls_cls Since.step (V1.out _))))
      refine wpQuiet_nil ?_
      intro _ hw'
      obtain ⟨nq, hw''⟩ := hw'
      subst hw''
      have Q := Lib.hid (show Below w.heap.size w nq.W from nq.ok)
      have HG1 := Lib.hid (Since.drew (w := w) (W := nq.W) nq.ok)
      have y1 := Y1.out
      have z1 := Z1.out
      clear y0 z0
      go_wp2_with fail
      refine wp_region_quiet_cls (Since w) (by kernel_rfl) (by kernel_rfl) HG1.out ?_
      repeat (go_big_quiet_step ((go_at_call 57; exact calls_cls Since.step (V2.out _))))
      refine wpQuiet_nil ?_
      intro _ hw'
      obtain ⟨nq2, hw''⟩ := hw'
      subst hw''
      have Q2 := Lib.hid (show Below w.heap.size w nq2.W from nq2.ok)
      have HG2 := Lib.hid (Since.drew (w := w) (W := nq2.W) nq2.ok)
      have y2 := Y2.out
      have z2 := Z2.out
      have e3 : (q3 != q3) = false := by simp
      clear y1 z1
      go_wp2_with fail
      refine wp_region_quiet_cls (Since w) (by kernel_rfl) (by kernel_rfl) HG2.out ?_
      repeat (go_big_quiet_step (fail))
      refine wpQuiet_nil ?_
      intro _ hw'
      obtain ⟨nq3, hw''⟩ := hw'
      subst hw''
      have Q3 := Lib.hid (show Below w.heap.size w nq3.W from nq3.ok)
      go_wp2_with fail
      go_roundg (n - (p + 1))
      case measure => omega
      case rel => exact ⟨p + 1, by omega, rfl, by go_num, Q3.out⟩
    · obtain rfl : p = n := by omega
      have i1 : ¬ (p : Int) < (p : Int) := by omega
      go_wp2_with fail
      go_ret
      exact ⟨rfl, HW.out⟩
end Go.Proofs.YtgbjhlkjceonpaaGreat.Lst
/- The walk of RowsSets. -/
namespace Go.Proofs.YtgbjhlkjceonpaaGreat.rowsSets
open Go.RowKit Go.Proofs.YtgbjhlkjceonpaaGreat.K Go.Proofs.YtgbjhlkjceonpaaGreat.Help Go.Proofs.YtgbjhlkjceonpaaGreat.Lst Go.Proofs.YtgbjhlkjceonpaaGreat.Peer
set_option linter.unusedVariables false

set_option maxRecDepth 100000 in
set_option maxHeartbeats 4000000 in
theorem walk (A A' B B' : Option Addr) (a a' b b' : Nat) (ps ps' : List PeerD) (ls ls' : List LaneD) (W : World) (hp : Lst PeerE W (fun _ => False) A a ps) (hp' : Lst PeerE W (fun _ => False) A' a' ps') (hq : Lst LaneE W (fun _ => False) B b ls) (hq' : Lst LaneE W (fun _ => False) B' b' ls') :
    Calls Tryz.prog 4 #[caseV A A' B B' a a' b b' ps.length ps'.length ls.length ls'.length] W fun e W' => e = .returned (.bool true) ∧ Below W.heap.size W W' := by
  have HP := Lib.hid hp
  have HP' := Lib.hid hp'
  have HQ := Lib.hid hq
  have HQ' := Lib.hid hq'
  have C0 := Lib.hid (CsS.start W (.slice A ps.length a) (.slice A' ps'.length a') (.slice B ls.length b) (.slice B' ls'.length b'))
  have FT := Lib.hid (fits_any A A' B B' a a' b b' ls.length ls'.length ps ps' _ (hp.below C0.out.below) (hp'.below C0.out.below))
  have z0 := C0.out.c0
  have z1 := C0.out.c1
  have z2 := C0.out.c2
  have z3 := C0.out.c3
  clear hp hp' hq hq'
  unfold caseV at FT ⊢
  go_enter Tryz.func4, Tryz.ntmps4
  go_wp2_with fail
  refine FT.out.mono ?_
  rintro e w1 ⟨fb, rfl, hf, hb1⟩
  have C1 := Lib.hid (C0.out.step hb1)
  have HF := Lib.hid hf
  clear hf hb1 z0 z1 z2 z3 C0 FT
  cases fb
  · have W1 := Lib.hid C1.out.below
    go_wp2_with fail
    go_ret
    exact ⟨rfl, W1.out⟩
  · obtain ⟨n1, n2, n3, n4, x1, x2⟩ := HF.out rfl
    have PA := Lib.hid (fun w h => peers_any A a ps w h (by omega) (fun x hx => by have := x1 x hx; omega))
    have PB := Lib.hid (fun w h => peers_any A' a' ps' w h (by omega) (fun x hx => by have := x2 x hx; omega))
    have LA := Lib.hid (fun w h => lanes_any B b ls w h (by omega))
    have LB := Lib.hid (fun w h => lanes_any B' b' ls' w h (by omega))
    have ST := Lib.hid (fun (A A' B B' : Option Addr) (a a' b b' : Nat) (w : World) hp hp' hq hq' => sets_any A A' B B' a a' b b' ps ps' ls ls' w hp hp' hq hq' (by omega) (by omega) (by omega) (by omega))
    have RF := Lib.hid (fun (w : World) hp hp' hq hq' => refSets_any A A' B B' a a' b b' ps ps' ls ls' w hp hp' hq hq' (by omega) (by omega) (by omega) (by omega))
    clear n1 n2 n3 n4 x1 x2 HF
    rw [progQ_eq] at ST
    generalize refSets ps ps' ls ls' = res at *
    obtain ⟨l, code⟩ := res
    have SS := Lib.hid (fun A B a b w h h' => sameSets_self A B a b l w h h')
    have z0 := C1.out.c0
    have z1 := C1.out.c1
    have z2 := C1.out.c2
    have z3 := C1.out.c3
    go_wp2_with fail
    go_region_held3 (fun w' => w'.cell? ⟨W.heap.size, 0, none⟩ = some (.slice A ps.length a) ∧ w'.cell? ⟨W.heap.size, 1, none⟩ = some (.slice A' ps'.length a') ∧ w'.cell? ⟨W.heap.size, 2, none⟩ = some (.slice B ls.length b) ∧ w'.cell? ⟨W.heap.size, 3, none⟩ = some (.slice B' ls'.length b')) (first | go_keep | exact ⟨d0, d1, d2, d3⟩ | exact ⟨e0, e1, e2, e3⟩ | exact ⟨f0, f1, f2, f3⟩ | exact ⟨g0, g1, g2, g3⟩ | exact ⟨i0, i1, i2, i3⟩)
      (first
      | (go_at_call 14; refine (ST.out A2 A3 B4 B5 a2 a3 b4 b5 _ M25.out M35.out M45.out M55.out).mono ?_; rintro e w6 ⟨S1, sc1, rfl, l1, hb⟩; dsimp only at l1 ⊢; have h6 := C5.out.step hb; have i0 := h6.c0; have i1 := h6.c1; have i2 := h6.c2; have i3 := h6.c3; have C6 := Lib.hid h6; have LS := Lib.hid l1; clear h6 l1 hb)
      | (go_at_call 16; refine (LB.out _ (HQ'.out.below C4.out.below)).mono ?_; rintro e w5 ⟨B5, b5, rfl, l1, hb⟩; have h6 := C4.out.step hb; have g0 := h6.c0; have g1 := h6.c1; have g2 := h6.c2; have g3 := h6.c3; have C5 := Lib.hid h6; have M55 := Lib.hid l1; have M25 := Lib.hid (M24.out.below hb); have M35 := Lib.hid (M34.out.below hb); have M45 := Lib.hid (M44.out.below hb); clear h6 l1 hb)
      | (go_at_call 16; refine (LA.out _ (HQ.out.below C3.out.below)).mono ?_; rintro e w4 ⟨B4, b4, rfl, l1, hb⟩; have h6 := C3.out.step hb; have f0 := h6.c0; have f1 := h6.c1; have f2 := h6.c2; have f3 := h6.c3; have C4 := Lib.hid h6; have M44 := Lib.hid l1; have M24 := Lib.hid (M23.out.below hb); have M34 := Lib.hid (M33.out.below hb); clear h6 l1 hb)
      | (go_at_call 15; refine (PB.out _ (HP'.out.below C2.out.below)).mono ?_; rintro e w3 ⟨A3, a3, rfl, l1, hb⟩; have h6 := C2.out.step hb; have e0 := h6.c0; have e1 := h6.c1; have e2 := h6.c2; have e3 := h6.c3; have C3 := Lib.hid h6; have M33 := Lib.hid l1; have M23 := Lib.hid (M22.out.below hb); clear h6 l1 hb)
      | (go_at_call 15; refine (PA.out _ (HP.out.below (C1.out.drewN _).below)).mono ?_; rintro e w2 ⟨A2, a2, rfl, l1, hb⟩; have h6 := (C1.out.drewN _).step hb; have d0 := h6.c0; have d1 := h6.c1; have d2 := h6.c2; have d3 := h6.c3; have C2 := Lib.hid h6; have M22 := Lib.hid l1; clear h6 l1 hb))
    clear M22 M23 M24 M25 M33 M34 M35 M44 M45 M55 d0 d1 d2 d3 e0 e1 e2 e3 f0 f1 f2 f3 g0 g1 g2 g3 z0 z1 z2 z3 PA PB LA LB ST C1 C2 C3 C4 C5
    have j0 := C6.out.c0
    clear j0
    go_wp2_with fail
    refine (RF.out _ (HP.out.below C6.out.below) (HP'.out.below C6.out.below) (HQ.out.below C6.out.below) (HQ'.out.below C6.out.below)).mono ?_
    rintro e w7 ⟨S2, sc2, rfl, l2, hb7⟩
    dsimp only at l2 ⊢
    have W7 := Lib.hid (below_step C6.out.below hb7)
    have LS2 := Lib.hid l2
    have LS1 := Lib.hid (LS.out.below hb7)
    clear l2 hb7 i0 i1 i2 i3 C6 LS RF
    go_wp2_with fail
    refine (SS.out S1 S2 sc1 sc2 w7 LS1.out LS2.out).mono ?_
    rintro e w8 ⟨rfl, hb8⟩
    have W8 := Lib.hid (below_step W7.out hb8)
    clear hb8
    go_wp2_with (go_at_call 11; refine (num_any _ _).mono ?_; rintro e w' ⟨rfl, rfl⟩)
    refine (first_any _).mono ?_
    rintro e w9 ⟨rfl, hb9⟩
    have W9 := Lib.hid (below_step W8.out hb9)
    clear hb9
    go_wp2_with fail
    go_ret
    exact ⟨rfl, W9.out⟩
end Go.Proofs.YtgbjhlkjceonpaaGreat.rowsSets
