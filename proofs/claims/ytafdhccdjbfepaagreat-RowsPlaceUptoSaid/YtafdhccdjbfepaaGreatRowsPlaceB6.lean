/- Contracts of the functions that RowsPlace reaches: part 6 of 7. -/
import Derived.Test.YtafdhccdjbfepaaGreatRowsPlaceB5
import Derived.IntWalk
/- marked and laid. -/
namespace Go.Proofs.YtafdhccdjbfepaaGreat.Lst
open Go.RowKit Go.Proofs.YtafdhccdjbfepaaGreat.K Go.Proofs.YtafdhccdjbfepaaGreat.Help Go.Proofs.YtafdhccdjbfepaaGreat.Pfx Go.Proofs.YtafdhccdjbfepaaGreat.Peer
set_option linter.unusedVariables false
theorem run_cutB {g n c k : Nat} (hk : k ≤ c) (z : Int) (hz : z = (k : Int)) (W : World) :
    (Instr.slice 33 (.slice (some ⟨g, 0, none⟩) n c) none (some (.int .i64 z)) none).run Tryz.prog W = .ok (.slice (some ⟨g, 0, none⟩) k c) W := by
  subst hz
  have hel : Tryz.prog.elem 33 = 5 := by kernel_rfl
  have hu : Tryz.prog.underlying 33 = some (.slice (Tryz.prog.elem 33)) := by rw [hel]; exact Tryz.underlying33
  rw [run_slice_h (P := Tryz.prog) (ht := hu) (h0 := by omega) (h2 := by omega), hel]
  have hsz : (sizeOf 5).run Tryz.prog W = .ok 1 W := by kernel_rfl
  simp only [Result.andThen, hsz, sliced]
  simp [Addr.add]
theorem marks_at (i : Nat) (hi : i < 40) : (marksL 40).getD i 0 = mark i := by
  unfold marksL
  simp [hi]
set_option maxRecDepth 100000 in
theorem mkd_any (g n c : Nat) (w : World) (h : Mk w g n) (hn : n ≤ 1000000) (hc : n + 40 ≤ c) (hc2 : c ≤ 9223372036854775807) :
    Calls Tryz.prog 14 #[.slice (some ⟨g, 0, none⟩) n c] w (Quiet (.bool true) w) := by
  obtain ⟨l, hl, hb⟩ := h
  have HB := Lib.hid hb
  have HL := Lib.hid hl
  have R := fun W => run_cutB (g := g) (n := n) (c := c) (k := n + 40) hc ((n : Int) + 40) (by push_cast; rfl) W
  clear hb hl
  go_enter Tryz.func14, Tryz.ntmps14
  go_wp2_with fail
  go_loopg [4] 40 (fun gk i wr => ∃ k : Nat, k ≤ 40 ∧ gk = 40 - k ∧ i = .int .i64 (k : Int) ∧ Hid (∃ q, wr = w.drewN q))
  case atStart => exact ⟨0, by omega, rfl, rfl, ⟨0, rfl⟩⟩
  case round =>
    obtain ⟨k, hk, rfl, rfl, HQ⟩ := hrel
    by_cases hlt : k < 40
    · have i1 : (k : Int) < 40 := by omega
      have i0 : (0 : Int) ≤ (k : Int) := by omega
      obtain ⟨q, rfl⟩ := HQ.out
      have c0 : (w.drewN q).cell? ⟨g, n + k, none⟩ = some (.int .u8 ((mark k).toNat : Int)) := by
        have h1 := HB.out.cell (n + k) (by rw [List.length_append, marks_len]; have := HL.out; omega)
        rw [← HL.out, getD_right, marks_at k hlt] at h1
        rw [← HL.out]
        exact h1
      have m0 := mark_wrap k hlt
      generalize (mark k).toNat = mk at *
      have hne : ((mk : Int) != (mk : Int)) = false := by simp
      go_wp2_with fail
      go_roundg (40 - (k + 1))
      case measure => omega
      case rel => exact ⟨k + 1, by omega, rfl, by go_num, ⟨q, rfl⟩⟩
    · obtain rfl : k = 40 := by omega
      have i1 : ¬ ((40 : Nat) : Int) < 40 := by omega
      go_wp2_with fail
      go_ret
      obtain ⟨q, hq⟩ := HQ.out
      exact ⟨q, rfl, hq⟩
theorem one_bs (w : World) (x : UInt8) : Bs (w.alloc (.cells #[.int .u8 (x.toNat : Int)] 5)) (some ⟨w.heap.size, 0, none⟩) 1 [x] :=
  Blk.bs (l := [x]) (g := w.heap.size) (blk_new w _) (by simp)
set_option maxRecDepth 100000 in
set_option maxHeartbeats 2000000 in
theorem laid_any (A : Option Addr) (a : Nat) (l : List UInt8) (w : World) (h : Bs w A a l) (hn : l.length ≤ 1000000) :
    Calls Tryz.prog 22 #[.slice A l.length a] w (fun e w' => ∃ g c, e = .returned (.slice (some ⟨g, 0, none⟩) l.length c) ∧ l.length + 40 ≤ c ∧ c ≤ 9223372036854775807 ∧ Byt w' g (l ++ marksL 40) ∧ w.heap.size ≤ g ∧ Below w.heap.size w w') := by
  have P1 := Lib.hid (Help.bytes A a l w h)
  clear h
  obtain ⟨n, hl⟩ : ∃ n, n = l.length := ⟨_, rfl⟩
  have HL := Lib.hid hl
  rw [← hl] at P1 hn ⊢
  clear hl
  go_enter Tryz.func22, Tryz.ntmps22
  go_wp2_with fail
  (with_reducible refine P1.out.mono ?_)
  rintro e w1 ⟨v1, rfl, o1, hb1⟩
  have O1 : Hid (Own w1 w.heap.size v1 (l ++ marksL 0)) := Lib.hid (by unfold marksL; simpa using o1)
  have B1 := Lib.hid hb1
  clear o1 hb1 P1
  go_wp2_with fail
  go_loopg [3, 4] 40 (fun gk v i wr => ∃ k : Nat, k ≤ 40 ∧ gk = 40 - k ∧ i = .int .i64 (k : Int) ∧ Hid (Own wr w.heap.size v (l ++ marksL k)) ∧ Hid (Below w.heap.size w wr))
  case atStart => exact ⟨0, by omega, rfl, rfl, O1, B1⟩
  case round =>
    clear O1 B1
    obtain ⟨k, hk, rfl, rfl, HO, HB⟩ := hrel
    obtain ⟨V, vc, rfl, -⟩ := HO.out.bs
    have HLK : Hid ((l ++ marksL k).length = n + k) := Lib.hid (by rw [List.length_append, marks_len, ← HL.out])
    by_cases hlt : k < 40
    · have i1 : (k : Int) < 40 := by omega
      have i0 : (0 : Int) ≤ (k : Int) := by omega
      have m0 := mark_wrap k hlt
      have hst : l ++ marksL (k + 1) = (l ++ marksL k) ++ [mark k] := by rw [marks_step, List.append_assoc]
      have HST := Lib.hid hst
      clear hst
      generalize mark k = mk at *
      have hb2 := below_alloc (Below.refl wr.heap.size wr) (.cells #[.int .u8 (mk.toNat : Int)] 5)
      have O2 := Lib.hid (HO.out.below hb2)
      have M2 := Lib.hid (one_bs wr mk)
      have W2 := Lib.hid (below_step HB.out hb2)
      clear hb2
      go_wp2_with (at_builtin; refine push_any (B := w.heap.size) rfl (.tmp 11) (.tmp 16) rfl (.slice V (l ++ marksL k).length vc) (l ++ marksL k) [mk] (some ⟨wr.heap.size, 0, none⟩) 1 rfl rfl O2.out M2.out W2.out.size (by rw [HLK.out, List.length_singleton]; omega) ?_; intro A4 c4 w4 o4 k4; rw [← HST.out] at o4 ⊢; have O4 := Lib.hid o4; have W4 := Lib.hid (below_only W2.out k4 (fun i hi => O2.out.base_le hi)); clear o4 k4)
      rw [← List.length_append]
      go_roundg (40 - (k + 1))
      case measure => omega
      case rel => exact ⟨k + 1, by omega, rfl, by go_num, O4, W4⟩
    · obtain rfl : k = 40 := by omega
      have i1 : ¬ ((40 : Nat) : Int) < 40 := by omega
      obtain ⟨g, c, e, g1, g2, g3, gb⟩ := own_byt HO.out (by rw [HLK.out]; omega)
      injection e with e1 e2 e3
      subst e1
      subst e3
      have GB := Lib.hid gb
      have g2' : n + 40 ≤ vc := by rw [← HLK.out]; exact g2
      rw [HLK.out]
      have R := fun W => run_cutB (g := g) (n := n + 40) (c := vc) (k := n) (by omega) (n : Int) rfl W
      clear gb g2
      go_wp2_with fail
      go_ret
      exact ⟨g, vc, rfl, g2', g3, GB.out, g1, HB.out⟩
end Go.Proofs.YtafdhccdjbfepaaGreat.Lst
/- Copies of lists of peers, of lanes. -/
namespace Go.Proofs.YtafdhccdjbfepaaGreat.Lst
open Go.RowKit Go.Proofs.YtafdhccdjbfepaaGreat.K Go.Proofs.YtafdhccdjbfepaaGreat.Help Go.Proofs.YtafdhccdjbfepaaGreat.Pfx Go.Proofs.YtafdhccdjbfepaaGreat.Peer
set_option linter.unusedVariables false

/-- new memory may be appended to whatever row stood before -/
theorem new_peer {W W2 : World} {A B : Option Addr} {a b : Nat} {x : PeerD} {N : Nat → Prop} (h1 : Bs W2 A a x.key) (h2 : Ps W2 B b x.ps) (n1 : Nw W A) (n2 : Nw W B) (hv : ∀ k, N k → k < W.heap.size) :
    PeerE.R W2 N [Value.int .i64 x.link, .slice A x.key.length a, .slice B x.ps.length b] x := ⟨A, a, B, b, rfl, Bs.fresh h1 n1 hv, Ps.fresh h2 n2 hv⟩
theorem new_lane {W W2 : World} {A : Option Addr} {a : Nat} {x : LaneD} {N : Nat → Prop} (h1 : Bs W2 A a x.key) (h2 : LaneB x) (n1 : Nw W A) (hv : ∀ k, N k → k < W.heap.size) :
    LaneE.R W2 N [Value.slice A x.key.length a, .int .i64 x.side, .int .i64 x.cur, .int .i64 x.next, .int .u64 (x.sc : Int), .int .u64 (x.ceil : Int), .int .i64 x.sec, .int .i64 x.nano] x := ⟨A, a, rfl, Bs.fresh h1 n1 hv, h2⟩
set_option maxRecDepth 100000 in
set_option maxHeartbeats 2000000 in
theorem peers_any (A : Option Addr) (c : Nat) (l : List PeerD) (w : World) (hl : Lst PeerE w (fun _ => False) A c l) (hn : l.length ≤ 1000) (hps : ∀ x, x ∈ l → x.ps.length ≤ 100000) :
    Calls Tryz.prog 25 #[.slice A l.length c] w (RetL PeerE w l) := by
  have HL := Lib.hid hl
  have h1 := hl.le
  have h2 := hl.max
  have HPS := Lib.hid hps
  clear hl hps
  generalize hm : l.length = n at *
  have HN := Lib.hid hm
  clear hm
  go_enter Tryz.func25, Tryz.ntmps25
  go_wp2_with fail
  go_loopg [4, 3] n (fun gk i s3 wr => ∃ k : Nat, k ≤ n ∧ gk = n - k ∧ i = .int .i64 (k : Int) ∧ OwnL PeerE 36 wr (fun _ => False) w.heap.size s3 (l.take k) ∧ Below w.heap.size w wr)
  case atStart => exact ⟨0, by omega, rfl, rfl, OwnL.nil _ _ _ _ _, Below.refl _ _⟩
  case round =>
    obtain ⟨k, hk, rfl, rfl, ho, hb⟩ := hrel
    have hlk : (l.take k).length = k := by rw [List.length_take, HN.out]; omega
    obtain ⟨AM, cM, rfl⟩ := ho.slice
    have HO := Lib.hid ho
    have HW := Lib.hid hb
    clear ho hb
    by_cases hlt : k < n
    · have i1 : (k : Int) < (n : Int) := by omega
      have i0 : (0 : Int) ≤ (k : Int) := by omega
      have HT : Hid (l.take (k + 1) = l.take k ++ [l.getD k zeroPeer]) := by
        rw [Hid, List.take_succ_eq_append_getElem (by rw [HN.out]; exact hlt)]; simp [show k < l.length by rw [HN.out]; exact hlt]
      have hxg : l[k]? = some (l.getD k zeroPeer) := getD_get zeroPeer (by rw [HN.out]; exact hlt)
      obtain ⟨bk, off, A1, a1, B1, b1, rfl, hbk, c0, c1, c2, s1, s2⟩ := HL.out.peer k _ hxg
      have hpl := HPS.out _ (List.mem_of_getElem? hxg)
      obtain ⟨x, hx⟩ : ∃ y, l.getD k zeroPeer = y := ⟨_, rfl⟩
      rw [hx] at c0 c1 c2 s1 s2 HT hpl
      have y0 : wr.cell? ⟨bk, off + k * 3, none⟩ = some (.int .i64 x.link) := (HW.out.cell (p := ⟨bk, _, none⟩) hbk).trans c0
      have y1 : wr.cell? ⟨bk, off + k * 3 + 1, none⟩ = some (.slice A1 x.key.length a1) := (HW.out.cell (p := ⟨bk, _, none⟩) hbk).trans c1
      have y2 : wr.cell? ⟨bk, off + k * 3 + 2, none⟩ = some (.slice B1 x.ps.length b1) := (HW.out.cell (p := ⟨bk, _, none⟩) hbk).trans c2
      have P := Lib.hid (refPeer A1 B1 a1 b1 x wr (s1.1.below HW.out) (s2.1.below HW.out) hpl)
      unfold peerV at P
      have HLK := Lib.hid hlk
      clear c0 c1 c2 s1 s2 hx hxg hpl
      rw [hlk] at HO ⊢
      clear hlk
      go_wp2_with fail
      refine P.out.mono ?_
      rintro e w2 ⟨A2, a2, B2, b2, rfl, t1, t2, hb2, n1, n2⟩
      unfold peerV
      dsimp only
      have hq1 := below_alloc hb2 (.cells #[.int .i64 x.link, .slice A2 x.key.length a2, .slice B2 x.ps.length b2] 36)
      have hq2 := below_alloc hq1 (.cells #[.int .i64 x.link, .slice A2 x.key.length a2, .slice B2 x.ps.length b2] 36)
      have hq0 := below_alloc (below_alloc (Below.refl w2.heap.size w2) (.cells #[.int .i64 x.link, .slice A2 x.key.length a2, .slice B2 x.ps.length b2] 36)) (.cells #[.int .i64 x.link, .slice A2 x.key.length a2, .slice B2 x.ps.length b2] 36)
      have p0 := (blk_cell (blk_new w2 (.cells #[.int .i64 x.link, .slice A2 x.key.length a2, .slice B2 x.ps.length b2] 36)) 0).trans (b := some (Value.int .i64 x.link)) rfl
      have p1 := (blk_cell (blk_new w2 (.cells #[.int .i64 x.link, .slice A2 x.key.length a2, .slice B2 x.ps.length b2] 36)) 1).trans (b := some (Value.slice A2 x.key.length a2)) rfl
      have p2 := (blk_cell (blk_new w2 (.cells #[.int .i64 x.link, .slice A2 x.key.length a2, .slice B2 x.ps.length b2] 36)) 2).trans (b := some (Value.slice B2 x.ps.length b2)) rfl
      have HWA := Lib.hid (below_step HW.out hq2)
      have hx2 := blk_new (w2.alloc (.cells #[.int .i64 x.link, .slice A2 x.key.length a2, .slice B2 x.ps.length b2] 36)) (.cells #[.int .i64 x.link, .slice A2 x.key.length a2, .slice B2 x.ps.length b2] 36)
      rw [show (w2.alloc (.cells #[.int .i64 x.link, .slice A2 x.key.length a2, .slice B2 x.ps.length b2] 36)).heap.size = w2.heap.size + 1 by simp] at hx2
      have HX1 := Lib.hid hx2
      have HOA := Lib.hid (HO.out.below hq2)
      have HXA := Lib.hid (new_peer (W := wr) (x := x) (N := fun i => (fun _ => False) i ∨ (Value.slice AM k cM).ownBlock = some i) (t1.below hq0) (t2.below hq0) n1 n2 (fun i hi => hi.elim False.elim (fun h => HO.out.lt h)))
      clear t1 t2 hb2 hq1 hq2 hq0 n1 n2 hx2
      go_wp2_with (at_builtin; refine push (E := PeerE) 36 22 _ 56 rfl (.tmp 17) (.tmp 19) rfl Tryz.underlying22 info_peer rfl (by decide) (by decide) (by decide) (.slice AM k cM) (l.take k) x [Value.int .i64 x.link, .slice A2 x.key.length a2, .slice B2 x.ps.length b2] (w2.heap.size + 1) 1 rfl rfl HOA.out HX1.out HXA.out HWA.out.size (by rw [HLK.out]; omega) ?_ (fun _ h => h.elim); intro A4 c4 w4 o4 k4 n4; rw [HLK.out] at o4 ⊢; rw [← HT.out] at o4; have O4 := Lib.hid o4; have W4 := Lib.hid (below_only HWA.out k4 (fun i hi => HOA.out.base_le hi)); clear o4 k4 n4)
      go_roundg (n - (k + 1))
      case measure => omega
      case rel => exact ⟨k + 1, by omega, rfl, by go_num, O4.out, W4.out⟩
    · obtain rfl : k = n := by omega
      have i1 : ¬ (k : Int) < (k : Int) := by omega
      have htk : l.take k = l := List.take_of_length_le (by rw [HN.out]; omega)
      rw [hlk] at HO ⊢
      rw [htk] at HO
      clear htk hlk
      go_wp2_with fail
      go_ret
      obtain ⟨A4, c4, e, h4⟩ := HO.out.lst (N := fun _ => False) (fun _ _ h => h)
      refine ⟨A4, c4, ?_, h4, HW.out⟩
      show Ending.returned (Value.slice AM k cM) = _
      rw [e]
set_option maxRecDepth 100000 in
set_option maxHeartbeats 2000000 in
theorem lanes_any (A : Option Addr) (c : Nat) (l : List LaneD) (w : World) (hl : Lst LaneE w (fun _ => False) A c l) (hn : l.length ≤ 1000) :
    Calls Tryz.prog 26 #[.slice A l.length c] w (RetL LaneE w l) := by
  have HL := Lib.hid hl
  have h1 := hl.le
  have h2 := hl.max
  clear hl
  generalize hm : l.length = n at *
  have HN := Lib.hid hm
  clear hm
  go_enter Tryz.func26, Tryz.ntmps26
  go_wp2_with fail
  go_loopg [4, 3] n (fun gk i s3 wr => ∃ k : Nat, k ≤ n ∧ gk = n - k ∧ i = .int .i64 (k : Int) ∧ OwnL LaneE 43 wr (fun _ => False) w.heap.size s3 (l.take k) ∧ Below w.heap.size w wr)
  case atStart => exact ⟨0, by omega, rfl, rfl, OwnL.nil _ _ _ _ _, Below.refl _ _⟩
  case round =>
    obtain ⟨k, hk, rfl, rfl, ho, hb⟩ := hrel
    have hlk : (l.take k).length = k := by rw [List.length_take, HN.out]; omega
    obtain ⟨AM, cM, rfl⟩ := ho.slice
    have HO := Lib.hid ho
    have HW := Lib.hid hb
    clear ho hb
    by_cases hlt : k < n
    · have i1 : (k : Int) < (n : Int) := by omega
      have i0 : (0 : Int) ≤ (k : Int) := by omega
      have HT : Hid (l.take (k + 1) = l.take k ++ [l.getD k zeroLane]) := by
        rw [Hid, List.take_succ_eq_append_getElem (by rw [HN.out]; exact hlt)]; simp [show k < l.length by rw [HN.out]; exact hlt]
      obtain ⟨bk, off, A1, a1, rfl, hbk, c0, c1, c2, c3, c4, c5, c6, c7, s1, lb⟩ := HL.out.lane k _ (getD_get zeroLane (by rw [HN.out]; exact hlt))
      obtain ⟨x, hx⟩ : ∃ y, l.getD k zeroLane = y := ⟨_, rfl⟩
      rw [hx] at c0 c1 c2 c3 c4 c5 c6 c7 s1 lb HT
      have y0 : wr.cell? ⟨bk, off + k * 8, none⟩ = some (.slice A1 x.key.length a1) := (HW.out.cell (p := ⟨bk, _, none⟩) hbk).trans c0
      have y1 : wr.cell? ⟨bk, off + k * 8 + 1, none⟩ = some (.int .i64 x.side) := (HW.out.cell (p := ⟨bk, _, none⟩) hbk).trans c1
      have y2 : wr.cell? ⟨bk, off + k * 8 + 2, none⟩ = some (.int .i64 x.cur) := (HW.out.cell (p := ⟨bk, _, none⟩) hbk).trans c2
      have y3 : wr.cell? ⟨bk, off + k * 8 + 3, none⟩ = some (.int .i64 x.next) := (HW.out.cell (p := ⟨bk, _, none⟩) hbk).trans c3
      have y4 : wr.cell? ⟨bk, off + k * 8 + 4, none⟩ = some (.int .u64 (x.sc : Int)) := (HW.out.cell (p := ⟨bk, _, none⟩) hbk).trans c4
      have y5 : wr.cell? ⟨bk, off + k * 8 + 5, none⟩ = some (.int .u64 (x.ceil : Int)) := (HW.out.cell (p := ⟨bk, _, none⟩) hbk).trans c5
      have y6 : wr.cell? ⟨bk, off + k * 8 + 6, none⟩ = some (.int .i64 x.sec) := (HW.out.cell (p := ⟨bk, _, none⟩) hbk).trans c6
      have y7 : wr.cell? ⟨bk, off + k * 8 + 7, none⟩ = some (.int .i64 x.nano) := (HW.out.cell (p := ⟨bk, _, none⟩) hbk).trans c7
      have LB := Lib.hid lb
      have P := Lib.hid (refLane A1 a1 x wr (s1.1.below HW.out))
      unfold laneV at P
      have HLK := Lib.hid hlk
      clear c0 c1 c2 c3 c4 c5 c6 c7 s1 hx lb
      rw [hlk] at HO ⊢
      clear hlk
      go_wp2_with fail
      refine P.out.mono ?_
      rintro e w2 ⟨A2, a2, rfl, t1, hb2, n1⟩
      unfold laneV
      dsimp only
      have hq1 := below_alloc hb2 (.cells #[.slice A2 x.key.length a2, .int .i64 x.side, .int .i64 x.cur, .int .i64 x.next, .int .u64 (x.sc : Int), .int .u64 (x.ceil : Int), .int .i64 x.sec, .int .i64 x.nano] 43)
      have hq2 := below_alloc hq1 (.cells #[.slice A2 x.key.length a2, .int .i64 x.side, .int .i64 x.cur, .int .i64 x.next, .int .u64 (x.sc : Int), .int .u64 (x.ceil : Int), .int .i64 x.sec, .int .i64 x.nano] 43)
      have hq0 := below_alloc (below_alloc (Below.refl w2.heap.size w2) (.cells #[.slice A2 x.key.length a2, .int .i64 x.side, .int .i64 x.cur, .int .i64 x.next, .int .u64 (x.sc : Int), .int .u64 (x.ceil : Int), .int .i64 x.sec, .int .i64 x.nano] 43)) (.cells #[.slice A2 x.key.length a2, .int .i64 x.side, .int .i64 x.cur, .int .i64 x.next, .int .u64 (x.sc : Int), .int .u64 (x.ceil : Int), .int .i64 x.sec, .int .i64 x.nano] 43)
      have p0 := (blk_cell (blk_new w2 (.cells #[.slice A2 x.key.length a2, .int .i64 x.side, .int .i64 x.cur, .int .i64 x.next, .int .u64 (x.sc : Int), .int .u64 (x.ceil : Int), .int .i64 x.sec, .int .i64 x.nano] 43)) 0).trans (b := some (Value.slice A2 x.key.length a2)) rfl
      have p1 := (blk_cell (blk_new w2 (.cells #[.slice A2 x.key.length a2, .int .i64 x.side, .int .i64 x.cur, .int .i64 x.next, .int .u64 (x.sc : Int), .int .u64 (x.ceil : Int), .int .i64 x.sec, .int .i64 x.nano] 43)) 1).trans (b := some (Value.int .i64 x.side)) rfl
      have p2 := (blk_cell (blk_new w2 (.cells #[.slice A2 x.key.length a2, .int .i64 x.side, .int .i64 x.cur, .int .i64 x.next, .int .u64 (x.sc : Int), .int .u64 (x.ceil : Int), .int .i64 x.sec, .int .i64 x.nano] 43)) 2).trans (b := some (Value.int .i64 x.cur)) rfl
      have p3 := (blk_cell (blk_new w2 (.cells #[.slice A2 x.key.length a2, .int .i64 x.side, .int .i64 x.cur, .int .i64 x.next, .int .u64 (x.sc : Int), .int .u64 (x.ceil : Int), .int .i64 x.sec, .int .i64 x.nano] 43)) 3).trans (b := some (Value.int .i64 x.next)) rfl
      have p4 := (blk_cell (blk_new w2 (.cells #[.slice A2 x.key.length a2, .int .i64 x.side, .int .i64 x.cur, .int .i64 x.next, .int .u64 (x.sc : Int), .int .u64 (x.ceil : Int), .int .i64 x.sec, .int .i64 x.nano] 43)) 4).trans (b := some (Value.int .u64 (x.sc : Int))) rfl
      have p5 := (blk_cell (blk_new w2 (.cells #[.slice A2 x.key.length a2, .int .i64 x.side, .int .i64 x.cur, .int .i64 x.next, .int .u64 (x.sc : Int), .int .u64 (x.ceil : Int), .int .i64 x.sec, .int .i64 x.nano] 43)) 5).trans (b := some (Value.int .u64 (x.ceil : Int))) rfl
      have p6 := (blk_cell (blk_new w2 (.cells #[.slice A2 x.key.length a2, .int .i64 x.side, .int .i64 x.cur, .int .i64 x.next, .int .u64 (x.sc : Int), .int .u64 (x.ceil : Int), .int .i64 x.sec, .int .i64 x.nano] 43)) 6).trans (b := some (Value.int .i64 x.sec)) rfl
      have p7 := (blk_cell (blk_new w2 (.cells #[.slice A2 x.key.length a2, .int .i64 x.side, .int .i64 x.cur, .int .i64 x.next, .int .u64 (x.sc : Int), .int .u64 (x.ceil : Int), .int .i64 x.sec, .int .i64 x.nano] 43)) 7).trans (b := some (Value.int .i64 x.nano)) rfl
      have HWA := Lib.hid (below_step HW.out hq2)
      have hx2 := blk_new (w2.alloc (.cells #[.slice A2 x.key.length a2, .int .i64 x.side, .int .i64 x.cur, .int .i64 x.next, .int .u64 (x.sc : Int), .int .u64 (x.ceil : Int), .int .i64 x.sec, .int .i64 x.nano] 43)) (.cells #[.slice A2 x.key.length a2, .int .i64 x.side, .int .i64 x.cur, .int .i64 x.next, .int .u64 (x.sc : Int), .int .u64 (x.ceil : Int), .int .i64 x.sec, .int .i64 x.nano] 43)
      rw [show (w2.alloc (.cells #[.slice A2 x.key.length a2, .int .i64 x.side, .int .i64 x.cur, .int .i64 x.next, .int .u64 (x.sc : Int), .int .u64 (x.ceil : Int), .int .i64 x.sec, .int .i64 x.nano] 43)).heap.size = w2.heap.size + 1 by simp] at hx2
      have HX1 := Lib.hid hx2
      have HOA := Lib.hid (HO.out.below hq2)
      have HXA := Lib.hid (new_lane (W := wr) (x := x) (N := fun i => (fun _ => False) i ∨ (Value.slice AM k cM).ownBlock = some i) (t1.below hq0) LB.out n1 (fun i hi => hi.elim False.elim (fun h => HO.out.lt h)))
      clear t1 hb2 hq1 hq2 hq0 n1 hx2
      go_wp2_with (at_builtin; refine push (E := LaneE) 43 23 _ 80 rfl (.tmp 17) (.tmp 19) rfl Tryz.underlying23 info_lane rfl (by decide) (by decide) (by decide) (.slice AM k cM) (l.take k) x [Value.slice A2 x.key.length a2, .int .i64 x.side, .int .i64 x.cur, .int .i64 x.next, .int .u64 (x.sc : Int), .int .u64 (x.ceil : Int), .int .i64 x.sec, .int .i64 x.nano] (w2.heap.size + 1) 1 rfl rfl HOA.out HX1.out HXA.out HWA.out.size (by rw [HLK.out]; omega) ?_ (fun _ h => h.elim); intro A4 c4 w4 o4 k4 n4; rw [HLK.out] at o4 ⊢; rw [← HT.out] at o4; have O4 := Lib.hid o4; have W4 := Lib.hid (below_only HWA.out k4 (fun i hi => HOA.out.base_le hi)); clear o4 k4 n4)
      go_roundg (n - (k + 1))
      case measure => omega
      case rel => exact ⟨k + 1, by omega, rfl, by go_num, O4.out, W4.out⟩
    · obtain rfl : k = n := by omega
      have i1 : ¬ (k : Int) < (k : Int) := by omega
      have htk : l.take k = l := List.take_of_length_le (by rw [HN.out]; omega)
      rw [hlk] at HO ⊢
      rw [htk] at HO
      clear htk hlk
      go_wp2_with fail
      go_ret
      obtain ⟨A4, c4, e, h4⟩ := HO.out.lst (N := fun _ => False) (fun _ _ h => h)
      refine ⟨A4, c4, ?_, h4, HW.out⟩
      show Ending.returned (Value.slice AM k cM) = _
      rw [e]
end Go.Proofs.YtafdhccdjbfepaaGreat.Lst
/- Copies of lists of peers, of lanes: the copy is the call's own. -/
namespace Go.Proofs.YtafdhccdjbfepaaGreat.Lst
open Go.RowKit Go.Proofs.YtafdhccdjbfepaaGreat.K Go.Proofs.YtafdhccdjbfepaaGreat.Help Go.Proofs.YtafdhccdjbfepaaGreat.Pfx Go.Proofs.YtafdhccdjbfepaaGreat.Peer
set_option linter.unusedVariables false
def RetLO {α : Type} (E : Elem α) (t : TypeId) (w : World) (l : List α) (e : Ending) (w' : World) : Prop := ∃ A c, e = .returned (.slice A l.length c) ∧ OwnL E t w' (fun _ => False) w.heap.size (.slice A l.length c) l ∧ Below w.heap.size w w'
set_option maxRecDepth 100000 in
set_option maxHeartbeats 2000000 in
theorem peersO_any (A : Option Addr) (c : Nat) (l : List PeerD) (w : World) (hl : Lst PeerE w (fun _ => False) A c l) (hn : l.length ≤ 1000) (hps : ∀ x, x ∈ l → x.ps.length ≤ 100000) :
    Calls Tryz.prog 25 #[.slice A l.length c] w (RetLO PeerE 36 w l) := by
  have HL := Lib.hid hl
  have h1 := hl.le
  have h2 := hl.max
  have HPS := Lib.hid hps
  clear hl hps
  generalize hm : l.length = n at *
  have HN := Lib.hid hm
  clear hm
  go_enter Tryz.func25, Tryz.ntmps25
  go_wp2_with fail
  go_loopg [4, 3] n (fun gk i s3 wr => ∃ k : Nat, k ≤ n ∧ gk = n - k ∧ i = .int .i64 (k : Int) ∧ OwnL PeerE 36 wr (fun _ => False) w.heap.size s3 (l.take k) ∧ Below w.heap.size w wr)
  case atStart => exact ⟨0, by omega, rfl, rfl, OwnL.nil _ _ _ _ _, Below.refl _ _⟩
  case round =>
    obtain ⟨k, hk, rfl, rfl, ho, hb⟩ := hrel
    have hlk : (l.take k).length = k := by rw [List.length_take, HN.out]; omega
    obtain ⟨AM, cM, rfl⟩ := ho.slice
    have HO := Lib.hid ho
    have HW := Lib.hid hb
    clear ho hb
    by_cases hlt : k < n
    · have i1 : (k : Int) < (n : Int) := by omega
      have i0 : (0 : Int) ≤ (k : Int) := by omega
      have HT : Hid (l.take (k + 1) = l.take k ++ [l.getD k zeroPeer]) := by
        rw [Hid, List.take_succ_eq_append_getElem (by rw [HN.out]; exact hlt)]; simp [show k < l.length by rw [HN.out]; exact hlt]
      have hxg : l[k]? = some (l.getD k zeroPeer) := getD_get zeroPeer (by rw [HN.out]; exact hlt)
      obtain ⟨bk, off, A1, a1, B1, b1, rfl, hbk, c0, c1, c2, s1, s2⟩ := HL.out.peer k _ hxg
      have hpl := HPS.out _ (List.mem_of_getElem? hxg)
      obtain ⟨x, hx⟩ : ∃ y, l.getD k zeroPeer = y := ⟨_, rfl⟩
      rw [hx] at c0 c1 c2 s1 s2 HT hpl
      have y0 : wr.cell? ⟨bk, off + k * 3, none⟩ = some (.int .i64 x.link) := (HW.out.cell (p := ⟨bk, _, none⟩) hbk).trans c0
      have y1 : wr.cell? ⟨bk, off + k * 3 + 1, none⟩ = some (.slice A1 x.key.length a1) := (HW.out.cell (p := ⟨bk, _, none⟩) hbk).trans c1
      have y2 : wr.cell? ⟨bk, off + k * 3 + 2, none⟩ = some (.slice B1 x.ps.length b1) := (HW.out.cell (p := ⟨bk, _, none⟩) hbk).trans c2
      have P := Lib.hid (refPeer A1 B1 a1 b1 x wr (s1.1.below HW.out) (s2.1.below HW.out) hpl)
      unfold peerV at P
      have HLK := Lib.hid hlk
      clear c0 c1 c2 s1 s2 hx hxg hpl
      rw [hlk] at HO ⊢
      clear hlk
      go_wp2_with fail
      refine P.out.mono ?_
      rintro e w2 ⟨A2, a2, B2, b2, rfl, t1, t2, hb2, n1, n2⟩
      unfold peerV
      dsimp only
      have hq1 := below_alloc hb2 (.cells #[.int .i64 x.link, .slice A2 x.key.length a2, .slice B2 x.ps.length b2] 36)
      have hq2 := below_alloc hq1 (.cells #[.int .i64 x.link, .slice A2 x.key.length a2, .slice B2 x.ps.length b2] 36)
      have hq0 := below_alloc (below_alloc (Below.refl w2.heap.size w2) (.cells #[.int .i64 x.link, .slice A2 x.key.length a2, .slice B2 x.ps.length b2] 36)) (.cells #[.int .i64 x.link, .slice A2 x.key.length a2, .slice B2 x.ps.length b2] 36)
      have p0 := (blk_cell (blk_new w2 (.cells #[.int .i64 x.link, .slice A2 x.key.length a2, .slice B2 x.ps.length b2] 36)) 0).trans (b := some (Value.int .i64 x.link)) rfl
      have p1 := (blk_cell (blk_new w2 (.cells #[.int .i64 x.link, .slice A2 x.key.length a2, .slice B2 x.ps.length b2] 36)) 1).trans (b := some (Value.slice A2 x.key.length a2)) rfl
      have p2 := (blk_cell (blk_new w2 (.cells #[.int .i64 x.link, .slice A2 x.key.length a2, .slice B2 x.ps.length b2] 36)) 2).trans (b := some (Value.slice B2 x.ps.length b2)) rfl
      have HWA := Lib.hid (below_step HW.out hq2)
      have hx2 := blk_new (w2.alloc (.cells #[.int .i64 x.link, .slice A2 x.key.length a2, .slice B2 x.ps.length b2] 36)) (.cells #[.int .i64 x.link, .slice A2 x.key.length a2, .slice B2 x.ps.length b2] 36)
      rw [show (w2.alloc (.cells #[.int .i64 x.link, .slice A2 x.key.length a2, .slice B2 x.ps.length b2] 36)).heap.size = w2.heap.size + 1 by simp] at hx2
      have HX1 := Lib.hid hx2
      have HOA := Lib.hid (HO.out.below hq2)
      have HXA := Lib.hid (new_peer (W := wr) (x := x) (N := fun i => (fun _ => False) i ∨ (Value.slice AM k cM).ownBlock = some i) (t1.below hq0) (t2.below hq0) n1 n2 (fun i hi => hi.elim False.elim (fun h => HO.out.lt h)))
      clear t1 t2 hb2 hq1 hq2 hq0 n1 n2 hx2
      go_wp2_with (at_builtin; refine push (E := PeerE) 36 22 _ 56 rfl (.tmp 17) (.tmp 19) rfl Tryz.underlying22 info_peer rfl (by decide) (by decide) (by decide) (.slice AM k cM) (l.take k) x [Value.int .i64 x.link, .slice A2 x.key.length a2, .slice B2 x.ps.length b2] (w2.heap.size + 1) 1 rfl rfl HOA.out HX1.out HXA.out HWA.out.size (by rw [HLK.out]; omega) ?_ (fun _ h => h.elim); intro A4 c4 w4 o4 k4 n4; rw [HLK.out] at o4 ⊢; rw [← HT.out] at o4; have O4 := Lib.hid o4; have W4 := Lib.hid (below_only HWA.out k4 (fun i hi => HOA.out.base_le hi)); clear o4 k4 n4)
      go_roundg (n - (k + 1))
      case measure => omega
      case rel => exact ⟨k + 1, by omega, rfl, by go_num, O4.out, W4.out⟩
    · obtain rfl : k = n := by omega
      have i1 : ¬ (k : Int) < (k : Int) := by omega
      have htk : l.take k = l := List.take_of_length_le (by rw [HN.out]; omega)
      rw [hlk] at HO ⊢
      rw [htk] at HO
      clear htk hlk
      go_wp2_with fail
      go_ret
      refine ⟨AM, cM, by rw [HN.out]; rfl, ?_, HW.out⟩
      rw [HN.out]
      exact HO.out
set_option maxRecDepth 100000 in
set_option maxHeartbeats 2000000 in
theorem lanesO_any (A : Option Addr) (c : Nat) (l : List LaneD) (w : World) (hl : Lst LaneE w (fun _ => False) A c l) (hn : l.length ≤ 1000) :
    Calls Tryz.prog 26 #[.slice A l.length c] w (RetLO LaneE 43 w l) := by
  have HL := Lib.hid hl
  have h1 := hl.le
  have h2 := hl.max
  clear hl
  generalize hm : l.length = n at *
  have HN := Lib.hid hm
  clear hm
  go_enter Tryz.func26, Tryz.ntmps26
  go_wp2_with fail
  go_loopg [4, 3] n (fun gk i s3 wr => ∃ k : Nat, k ≤ n ∧ gk = n - k ∧ i = .int .i64 (k : Int) ∧ OwnL LaneE 43 wr (fun _ => False) w.heap.size s3 (l.take k) ∧ Below w.heap.size w wr)
  case atStart => exact ⟨0, by omega, rfl, rfl, OwnL.nil _ _ _ _ _, Below.refl _ _⟩
  case round =>
    obtain ⟨k, hk, rfl, rfl, ho, hb⟩ := hrel
    have hlk : (l.take k).length = k := by rw [List.length_take, HN.out]; omega
    obtain ⟨AM, cM, rfl⟩ := ho.slice
    have HO := Lib.hid ho
    have HW := Lib.hid hb
    clear ho hb
    by_cases hlt : k < n
    · have i1 : (k : Int) < (n : Int) := by omega
      have i0 : (0 : Int) ≤ (k : Int) := by omega
      have HT : Hid (l.take (k + 1) = l.take k ++ [l.getD k zeroLane]) := by
        rw [Hid, List.take_succ_eq_append_getElem (by rw [HN.out]; exact hlt)]; simp [show k < l.length by rw [HN.out]; exact hlt]
      obtain ⟨bk, off, A1, a1, rfl, hbk, c0, c1, c2, c3, c4, c5, c6, c7, s1, lb⟩ := HL.out.lane k _ (getD_get zeroLane (by rw [HN.out]; exact hlt))
      obtain ⟨x, hx⟩ : ∃ y, l.getD k zeroLane = y := ⟨_, rfl⟩
      rw [hx] at c0 c1 c2 c3 c4 c5 c6 c7 s1 lb HT
      have y0 : wr.cell? ⟨bk, off + k * 8, none⟩ = some (.slice A1 x.key.length a1) := (HW.out.cell (p := ⟨bk, _, none⟩) hbk).trans c0
      have y1 : wr.cell? ⟨bk, off + k * 8 + 1, none⟩ = some (.int .i64 x.side) := (HW.out.cell (p := ⟨bk, _, none⟩) hbk).trans c1
      have y2 : wr.cell? ⟨bk, off + k * 8 + 2, none⟩ = some (.int .i64 x.cur) := (HW.out.cell (p := ⟨bk, _, none⟩) hbk).trans c2
      have y3 : wr.cell? ⟨bk, off + k * 8 + 3, none⟩ = some (.int .i64 x.next) := (HW.out.cell (p := ⟨bk, _, none⟩) hbk).trans c3
      have y4 : wr.cell? ⟨bk, off + k * 8 + 4, none⟩ = some (.int .u64 (x.sc : Int)) := (HW.out.cell (p := ⟨bk, _, none⟩) hbk).trans c4
      have y5 : wr.cell? ⟨bk, off + k * 8 + 5, none⟩ = some (.int .u64 (x.ceil : Int)) := (HW.out.cell (p := ⟨bk, _, none⟩) hbk).trans c5
      have y6 : wr.cell? ⟨bk, off + k * 8 + 6, none⟩ = some (.int .i64 x.sec) := (HW.out.cell (p := ⟨bk, _, none⟩) hbk).trans c6
      have y7 : wr.cell? ⟨bk, off + k * 8 + 7, none⟩ = some (.int .i64 x.nano) := (HW.out.cell (p := ⟨bk, _, none⟩) hbk).trans c7
      have LB := Lib.hid lb
      have P := Lib.hid (refLane A1 a1 x wr (s1.1.below HW.out))
      unfold laneV at P
      have HLK := Lib.hid hlk
      clear c0 c1 c2 c3 c4 c5 c6 c7 s1 hx lb
      rw [hlk] at HO ⊢
      clear hlk
      go_wp2_with fail
      refine P.out.mono ?_
      rintro e w2 ⟨A2, a2, rfl, t1, hb2, n1⟩
      unfold laneV
      dsimp only
      have hq1 := below_alloc hb2 (.cells #[.slice A2 x.key.length a2, .int .i64 x.side, .int .i64 x.cur, .int .i64 x.next, .int .u64 (x.sc : Int), .int .u64 (x.ceil : Int), .int .i64 x.sec, .int .i64 x.nano] 43)
      have hq2 := below_alloc hq1 (.cells #[.slice A2 x.key.length a2, .int .i64 x.side, .int .i64 x.cur, .int .i64 x.next, .int .u64 (x.sc : Int), .int .u64 (x.ceil : Int), .int .i64 x.sec, .int .i64 x.nano] 43)
      have hq0 := below_alloc (below_alloc (Below.refl w2.heap.size w2) (.cells #[.slice A2 x.key.length a2, .int .i64 x.side, .int .i64 x.cur, .int .i64 x.next, .int .u64 (x.sc : Int), .int .u64 (x.ceil : Int), .int .i64 x.sec, .int .i64 x.nano] 43)) (.cells #[.slice A2 x.key.length a2, .int .i64 x.side, .int .i64 x.cur, .int .i64 x.next, .int .u64 (x.sc : Int), .int .u64 (x.ceil : Int), .int .i64 x.sec, .int .i64 x.nano] 43)
      have p0 := (blk_cell (blk_new w2 (.cells #[.slice A2 x.key.length a2, .int .i64 x.side, .int .i64 x.cur, .int .i64 x.next, .int .u64 (x.sc : Int), .int .u64 (x.ceil : Int), .int .i64 x.sec, .int .i64 x.nano] 43)) 0).trans (b := some (Value.slice A2 x.key.length a2)) rfl
      have p1 := (blk_cell (blk_new w2 (.cells #[.slice A2 x.key.length a2, .int .i64 x.side, .int .i64 x.cur, .int .i64 x.next, .int .u64 (x.sc : Int), .int .u64 (x.ceil : Int), .int .i64 x.sec, .int .i64 x.nano] 43)) 1).trans (b := some (Value.int .i64 x.side)) rfl
      have p2 := (blk_cell (blk_new w2 (.cells #[.slice A2 x.key.length a2, .int .i64 x.side, .int .i64 x.cur, .int .i64 x.next, .int .u64 (x.sc : Int), .int .u64 (x.ceil : Int), .int .i64 x.sec, .int .i64 x.nano] 43)) 2).trans (b := some (Value.int .i64 x.cur)) rfl
      have p3 := (blk_cell (blk_new w2 (.cells #[.slice A2 x.key.length a2, .int .i64 x.side, .int .i64 x.cur, .int .i64 x.next, .int .u64 (x.sc : Int), .int .u64 (x.ceil : Int), .int .i64 x.sec, .int .i64 x.nano] 43)) 3).trans (b := some (Value.int .i64 x.next)) rfl
      have p4 := (blk_cell (blk_new w2 (.cells #[.slice A2 x.key.length a2, .int .i64 x.side, .int .i64 x.cur, .int .i64 x.next, .int .u64 (x.sc : Int), .int .u64 (x.ceil : Int), .int .i64 x.sec, .int .i64 x.nano] 43)) 4).trans (b := some (Value.int .u64 (x.sc : Int))) rfl
      have p5 := (blk_cell (blk_new w2 (.cells #[.slice A2 x.key.length a2, .int .i64 x.side, .int .i64 x.cur, .int .i64 x.next, .int .u64 (x.sc : Int), .int .u64 (x.ceil : Int), .int .i64 x.sec, .int .i64 x.nano] 43)) 5).trans (b := some (Value.int .u64 (x.ceil : Int))) rfl
      have p6 := (blk_cell (blk_new w2 (.cells #[.slice A2 x.key.length a2, .int .i64 x.side, .int .i64 x.cur, .int .i64 x.next, .int .u64 (x.sc : Int), .int .u64 (x.ceil : Int), .int .i64 x.sec, .int .i64 x.nano] 43)) 6).trans (b := some (Value.int .i64 x.sec)) rfl
      have p7 := (blk_cell (blk_new w2 (.cells #[.slice A2 x.key.length a2, .int .i64 x.side, .int .i64 x.cur, .int .i64 x.next, .int .u64 (x.sc : Int), .int .u64 (x.ceil : Int), .int .i64 x.sec, .int .i64 x.nano] 43)) 7).trans (b := some (Value.int .i64 x.nano)) rfl
      have HWA := Lib.hid (below_step HW.out hq2)
      have hx2 := blk_new (w2.alloc (.cells #[.slice A2 x.key.length a2, .int .i64 x.side, .int .i64 x.cur, .int .i64 x.next, .int .u64 (x.sc : Int), .int .u64 (x.ceil : Int), .int .i64 x.sec, .int .i64 x.nano] 43)) (.cells #[.slice A2 x.key.length a2, .int .i64 x.side, .int .i64 x.cur, .int .i64 x.next, .int .u64 (x.sc : Int), .int .u64 (x.ceil : Int), .int .i64 x.sec, .int .i64 x.nano] 43)
      rw [show (w2.alloc (.cells #[.slice A2 x.key.length a2, .int .i64 x.side, .int .i64 x.cur, .int .i64 x.next, .int .u64 (x.sc : Int), .int .u64 (x.ceil : Int), .int .i64 x.sec, .int .i64 x.nano] 43)).heap.size = w2.heap.size + 1 by simp] at hx2
      have HX1 := Lib.hid hx2
      have HOA := Lib.hid (HO.out.below hq2)
      have HXA := Lib.hid (new_lane (W := wr) (x := x) (N := fun i => (fun _ => False) i ∨ (Value.slice AM k cM).ownBlock = some i) (t1.below hq0) LB.out n1 (fun i hi => hi.elim False.elim (fun h => HO.out.lt h)))
      clear t1 hb2 hq1 hq2 hq0 n1 hx2
      go_wp2_with (at_builtin; refine push (E := LaneE) 43 23 _ 80 rfl (.tmp 17) (.tmp 19) rfl Tryz.underlying23 info_lane rfl (by decide) (by decide) (by decide) (.slice AM k cM) (l.take k) x [Value.slice A2 x.key.length a2, .int .i64 x.side, .int .i64 x.cur, .int .i64 x.next, .int .u64 (x.sc : Int), .int .u64 (x.ceil : Int), .int .i64 x.sec, .int .i64 x.nano] (w2.heap.size + 1) 1 rfl rfl HOA.out HX1.out HXA.out HWA.out.size (by rw [HLK.out]; omega) ?_ (fun _ h => h.elim); intro A4 c4 w4 o4 k4 n4; rw [HLK.out] at o4 ⊢; rw [← HT.out] at o4; have O4 := Lib.hid o4; have W4 := Lib.hid (below_only HWA.out k4 (fun i hi => HOA.out.base_le hi)); clear o4 k4 n4)
      go_roundg (n - (k + 1))
      case measure => omega
      case rel => exact ⟨k + 1, by omega, rfl, by go_num, O4.out, W4.out⟩
    · obtain rfl : k = n := by omega
      have i1 : ¬ (k : Int) < (k : Int) := by omega
      have htk : l.take k = l := List.take_of_length_le (by rw [HN.out]; omega)
      rw [hlk] at HO ⊢
      rw [htk] at HO
      clear htk hlk
      go_wp2_with fail
      go_ret
      refine ⟨AM, cM, by rw [HN.out]; rfl, ?_, HW.out⟩
      rw [HN.out]
      exact HO.out
end Go.Proofs.YtafdhccdjbfepaaGreat.Lst
/- Lists whose keys lie in blocks of their own, marks behind them. -/
namespace Go.Proofs.YtafdhccdjbfepaaGreat.Lst
open Go.RowKit Go.Proofs.YtafdhccdjbfepaaGreat.K Go.Proofs.YtafdhccdjbfepaaGreat.Help Go.Proofs.YtafdhccdjbfepaaGreat.Pfx Go.Proofs.YtafdhccdjbfepaaGreat.Peer
set_option linter.unusedVariables false
theorem cell_ne {w : World} {g p b i : Nat} {v u : Value} (h : w.cell? ⟨b, i, none⟩ = some u) (hn : ¬ (b = g ∧ i = p)) : (w.setCell ⟨g, p, none⟩ v).cell? ⟨b, i, none⟩ = some u := by rw [cell_set, if_neg hn, h]
theorem cell_at {w : World} {g p : Nat} {v u : Value} (h : w.cell? ⟨g, p, none⟩ = some u) : (w.setCell ⟨g, p, none⟩ v).cell? ⟨g, p, none⟩ = some v := by rw [cell_set, if_pos ⟨rfl, rfl⟩, h]; rfl
theorem size_set (w : World) (p : Addr) (v : Value) : (w.setCell p v).heap.size = w.heap.size := by simp [World.setCell]
section
variable {w : World} {c bk off i : Nat}
theorem lstP_key {l : List PeerD} (h : Lst PeerE w (fun _ => False) (some ⟨bk, off, none⟩) c l) (hi : i < l.length) {G : Option Addr} {cg : Nat} (hG : Bs w G cg l[i].key) :
    Lst PeerE (w.setCell ⟨bk, off + i * 3 + 1, none⟩ (.slice G l[i].key.length cg)) (fun _ => False) (some ⟨bk, off, none⟩) c l := by
  obtain ⟨bk0, off0, A0, a0, B0, b0, e0, hlt0, x0, x1, x2, t1, t2⟩ := h.peer i l[i] (List.getElem?_eq_getElem hi)
  cases e0
  have hB : ∀ {A : Option Addr} {a : Nat} {y : List UInt8}, Bs w A a y → Bs (w.setCell ⟨bk, off + i * 3 + 1, none⟩ (.slice G l[i].key.length cg)) A a y := fun h => bs_set h x1 notU8_slice
  have hP : ∀ {A : Option Addr} {a : Nat} {y : List PfxI}, Ps w A a y → Ps (w.setCell ⟨bk, off + i * 3 + 1, none⟩ (.slice G l[i].key.length cg)) A a y := fun h => ps_set h x1 (fun z e => by cases e) (fun z e => by cases e)
  refine ⟨h.le, h.max, fun k x hx => ?_⟩
  obtain ⟨bk1, off1, A1, a1, B1, b1, e1, hlt, c0, c1, c2, s1, s2⟩ := h.peer k x hx
  cases e1
  by_cases hk : k = i
  · subst hk
    have ex : l[k] = x := by
      rw [List.getElem?_eq_getElem hi] at hx
      injection hx
    subst ex
    refine ⟨bk, off, [.int .i64 l[k].link, .slice G l[k].key.length cg, .slice B1 l[k].ps.length b1], rfl, by rw [size_set]; exact hlt, id, fun j hj => ?_, G, cg, B1, b1, rfl, Bs.bsn (hB hG), psn_of (hP s2.1)⟩
    have hj2 : j < 3 := hj
    match j, hj2 with
    | 0, _ => exact cell_ne (i := off + k * 3) c0 (by omega)
    | 1, _ => exact cell_at c1
    | 2, _ => exact cell_ne (i := off + k * 3 + 2) c2 (by omega)
  · refine ⟨bk, off, [.int .i64 x.link, .slice A1 x.key.length a1, .slice B1 x.ps.length b1], rfl, by rw [size_set]; exact hlt, id, fun j hj => ?_, A1, a1, B1, b1, rfl, Bs.bsn (hB s1.1), psn_of (hP s2.1)⟩
    have hj2 : j < 3 := hj
    match j, hj2 with
    | 0, _ => exact cell_ne (i := off + k * 3) c0 (by omega)
    | 1, _ => exact cell_ne (i := off + k * 3 + 1) c1 (by omega)
    | 2, _ => exact cell_ne (i := off + k * 3 + 2) c2 (by omega)
theorem lstL_key {l : List LaneD} (h : Lst LaneE w (fun _ => False) (some ⟨bk, off, none⟩) c l) (hi : i < l.length) {G : Option Addr} {cg : Nat} (hG : Bs w G cg l[i].key) :
    Lst LaneE (w.setCell ⟨bk, off + i * 8, none⟩ (.slice G l[i].key.length cg)) (fun _ => False) (some ⟨bk, off, none⟩) c l := by
  obtain ⟨bk0, off0, A0, a0, e0, hlt0, x0, x1, x2, x3, x4, x5, x6, x7, t1, t2⟩ := h.lane i l[i] (List.getElem?_eq_getElem hi)
  cases e0
  have hB : ∀ {A : Option Addr} {a : Nat} {y : List UInt8}, Bs w A a y → Bs (w.setCell ⟨bk, off + i * 8, none⟩ (.slice G l[i].key.length cg)) A a y := fun h => bs_set h x0 notU8_slice
  refine ⟨h.le, h.max, fun k x hx => ?_⟩
  obtain ⟨bk1, off1, A1, a1, e1, hlt, c0, c1, c2, c3, c4, c5, c6, c7, s1, lb⟩ := h.lane k x hx
  cases e1
  by_cases hk : k = i
  · subst hk
    have ex : l[k] = x := by
      rw [List.getElem?_eq_getElem hi] at hx
      injection hx
    subst ex
    refine ⟨bk, off, [.slice G l[k].key.length cg, .int .i64 l[k].side, .int .i64 l[k].cur, .int .i64 l[k].next, .int .u64 (l[k].sc : Int), .int .u64 (l[k].ceil : Int), .int .i64 l[k].sec, .int .i64 l[k].nano], rfl, by rw [size_set]; exact hlt, id, fun j hj => ?_, G, cg, rfl, Bs.bsn (hB hG), lb⟩
    have hj2 : j < 8 := hj
    match j, hj2 with
    | 0, _ => exact cell_at c0
    | 1, _ => exact cell_ne (i := off + k * 8 + 1) c1 (by omega)
    | 2, _ => exact cell_ne (i := off + k * 8 + 2) c2 (by omega)
    | 3, _ => exact cell_ne (i := off + k * 8 + 3) c3 (by omega)
    | 4, _ => exact cell_ne (i := off + k * 8 + 4) c4 (by omega)
    | 5, _ => exact cell_ne (i := off + k * 8 + 5) c5 (by omega)
    | 6, _ => exact cell_ne (i := off + k * 8 + 6) c6 (by omega)
    | 7, _ => exact cell_ne (i := off + k * 8 + 7) c7 (by omega)
  · refine ⟨bk, off, [.slice A1 x.key.length a1, .int .i64 x.side, .int .i64 x.cur, .int .i64 x.next, .int .u64 (x.sc : Int), .int .u64 (x.ceil : Int), .int .i64 x.sec, .int .i64 x.nano], rfl, by rw [size_set]; exact hlt, id, fun j hj => ?_, A1, a1, rfl, Bs.bsn (hB s1.1), lb⟩
    have hj2 : j < 8 := hj
    match j, hj2 with
    | 0, _ => exact cell_ne (i := off + k * 8) c0 (by omega)
    | 1, _ => exact cell_ne (i := off + k * 8 + 1) c1 (by omega)
    | 2, _ => exact cell_ne (i := off + k * 8 + 2) c2 (by omega)
    | 3, _ => exact cell_ne (i := off + k * 8 + 3) c3 (by omega)
    | 4, _ => exact cell_ne (i := off + k * 8 + 4) c4 (by omega)
    | 5, _ => exact cell_ne (i := off + k * 8 + 5) c5 (by omega)
    | 6, _ => exact cell_ne (i := off + k * 8 + 6) c6 (by omega)
    | 7, _ => exact cell_ne (i := off + k * 8 + 7) c7 (by omega)
theorem lstL_cur {l : List LaneD} (h : Lst LaneE w (fun _ => False) (some ⟨bk, off, none⟩) c l) (hi : i < l.length) (z : Int) :
    ∃ l', l'.length = l.length ∧ Lst LaneE (w.setCell ⟨bk, off + i * 8 + 2, none⟩ (.int .i64 z)) (fun _ => False) (some ⟨bk, off, none⟩) c l' := by
  obtain ⟨bk0, off0, A0, a0, e0, hlt0, x0, x1, x2, x3, x4, x5, x6, x7, t1, t2⟩ := h.lane i l[i] (List.getElem?_eq_getElem hi)
  cases e0
  have hB : ∀ {A : Option Addr} {a : Nat} {y : List UInt8}, Bs w A a y → Bs (w.setCell ⟨bk, off + i * 8 + 2, none⟩ (.int .i64 z)) A a y := fun h => bs_set h x2 notU8_i64
  obtain ⟨l', h1, h2, _⟩ := Lst.of_each (w := w.setCell ⟨bk, off + i * 8 + 2, none⟩ (.int .i64 z)) (E := LaneE) (N := fun _ => False) (A := some ⟨bk, off, none⟩) h.le h.max (fun _ _ => True) (fun k hk => by
    obtain ⟨bk1, off1, A1, a1, e1, hlt, c0, c1, c2, c3, c4, c5, c6, c7, s1, lb⟩ := h.lane k l[k] (List.getElem?_eq_getElem hk)
    cases e1
    by_cases hki : k = i
    · subst hki
      refine ⟨⟨l[k].key, l[k].side, z, l[k].next, l[k].sc, l[k].ceil, l[k].sec, l[k].nano⟩, bk, off, [.slice A1 l[k].key.length a1, .int .i64 l[k].side, .int .i64 z, .int .i64 l[k].next, .int .u64 (l[k].sc : Int), .int .u64 (l[k].ceil : Int), .int .i64 l[k].sec, .int .i64 l[k].nano], rfl, by rw [size_set]; exact hlt, id, fun j hj => ?_, ⟨A1, a1, rfl, Bs.bsn (hB s1.1), ⟨lb.sc, lb.ceil, lb.sec⟩⟩, trivial⟩
      have hj2 : j < 8 := hj
      match j, hj2 with
      | 0, _ => exact cell_ne (i := off + k * 8) c0 (by omega)
      | 1, _ => exact cell_ne (i := off + k * 8 + 1) c1 (by omega)
      | 2, _ => exact cell_at c2
      | 3, _ => exact cell_ne (i := off + k * 8 + 3) c3 (by omega)
      | 4, _ => exact cell_ne (i := off + k * 8 + 4) c4 (by omega)
      | 5, _ => exact cell_ne (i := off + k * 8 + 5) c5 (by omega)
      | 6, _ => exact cell_ne (i := off + k * 8 + 6) c6 (by omega)
      | 7, _ => exact cell_ne (i := off + k * 8 + 7) c7 (by omega)
    · refine ⟨l[k], bk, off, [.slice A1 l[k].key.length a1, .int .i64 l[k].side, .int .i64 l[k].cur, .int .i64 l[k].next, .int .u64 (l[k].sc : Int), .int .u64 (l[k].ceil : Int), .int .i64 l[k].sec, .int .i64 l[k].nano], rfl, by rw [size_set]; exact hlt, id, fun j hj => ?_, ⟨A1, a1, rfl, Bs.bsn (hB s1.1), lb⟩, trivial⟩
      have hj2 : j < 8 := hj
      match j, hj2 with
      | 0, _ => exact cell_ne (i := off + k * 8) c0 (by omega)
      | 1, _ => exact cell_ne (i := off + k * 8 + 1) c1 (by omega)
      | 2, _ => exact cell_ne (i := off + k * 8 + 2) c2 (by omega)
      | 3, _ => exact cell_ne (i := off + k * 8 + 3) c3 (by omega)
      | 4, _ => exact cell_ne (i := off + k * 8 + 4) c4 (by omega)
      | 5, _ => exact cell_ne (i := off + k * 8 + 5) c5 (by omega)
      | 6, _ => exact cell_ne (i := off + k * 8 + 6) c6 (by omega)
      | 7, _ => exact cell_ne (i := off + k * 8 + 7) c7 (by omega))
  exact ⟨l', h1, h2⟩
end
/-- a key that was laid down: its block, its length, the slice's room -/
abbrev KIt := Nat × Nat × Nat
/-- the key of element i is the slice of it[i] (elements of sz cells, the key in cell f) -/
structure KsAt (w : World) (A : Option Addr) (sz f : Nat) (it : List KIt) : Prop where
  at_ : ∀ i g n c, it[i]? = some (g, n, c) → (∃ bk off, A = some ⟨bk, off, none⟩ ∧ bk < w.heap.size ∧ w.cell? ⟨bk, off + i * sz + f, none⟩ = some (.slice (some ⟨g, 0, none⟩) n c)) ∧ n + 40 ≤ c ∧ c ≤ 9223372036854775807 ∧ n ≤ 1000000 ∧ Mk w g n
theorem Mk.lt {w : World} {g n : Nat} (h : Mk w g n) : g < w.heap.size := by obtain ⟨l, _, h⟩ := h; exact h.lt
theorem Mk.only {w w' : World} {g n : Nat} {T : Nat → Prop} (h : Mk w g n) (k : Only w w' T) (hT : ¬ T g) : Mk w' g n := by
  obtain ⟨l, h1, h2⟩ := h
  exact ⟨l, h1, h2.only k hT⟩
section
variable {w w' : World} {A : Option Addr} {sz f : Nat} {it : List KIt}
theorem KsAt.nil : KsAt w A sz f [] := ⟨fun i g n c h => by simp at h⟩
theorem KsAt.keep (h : KsAt w A sz f it) (hb : Below w.heap.size w w') : KsAt w' A sz f it := ⟨fun i g n c e => by
  obtain ⟨⟨bk, off, e1, h1, h2⟩, h3, h4, h5, h6⟩ := h.at_ i g n c e
  exact ⟨⟨bk, off, e1, Nat.lt_of_lt_of_le h1 hb.size, (hb.cell (p := ⟨bk, _, none⟩) h1).trans h2⟩, h3, h4, h5, h6.keep hb⟩⟩
/-- one key is turned -/
theorem KsAt.turn (h : KsAt w A sz f it) {g0 n0 : Nat} (u : UC w w') (k : Only w w' (fun i => i = g0)) (m : Mk w' g0 n0) (hd : ∀ x, x ∈ it → x.1 = g0 → x.2.1 = n0) : KsAt w' A sz f it := ⟨fun i g n c e => by
  obtain ⟨⟨bk, off, e1, h1, h2⟩, h3, h4, h5, h6⟩ := h.at_ i g n c e
  refine ⟨⟨bk, off, e1, Nat.lt_of_lt_of_le h1 u.size, u.keep h2 notU8_slice⟩, h3, h4, h5, ?_⟩
  by_cases hg : g = g0
  · subst hg
    have := hd _ (List.mem_of_getElem? e) rfl
    dsimp only at this
    rw [this]
    exact m
  · exact h6.only k hg⟩
end
end Go.Proofs.YtafdhccdjbfepaaGreat.Lst
/- peersLaid and lanesLaid. -/
namespace Go.Proofs.YtafdhccdjbfepaaGreat.Lst
open Go.RowKit Go.Proofs.YtafdhccdjbfepaaGreat.K Go.Proofs.YtafdhccdjbfepaaGreat.Help Go.Proofs.YtafdhccdjbfepaaGreat.Pfx Go.Proofs.YtafdhccdjbfepaaGreat.Peer
set_option linter.unusedVariables false
theorem byt_front {w : World} {g c : Nat} {l r : List UInt8} (h : Byt w g (l ++ r)) (hc : l.length ≤ c) (hn : l.length ≤ 140737488355328) : Bs w (some ⟨g, 0, none⟩) c l :=
  ⟨hc, hn, fun i hi => ⟨_, rfl, h.lt, by rw [addr_add_plain, h.cell i (by rw [List.length_append]; omega), getD_left hi]⟩⟩
section
variable {w : World} {sz f : Nat} {it : List KIt}
theorem KsAt.put {bk off g n c : Nat} {cs : Array Value} {t : TypeId} {old : Value} (h : KsAt w (some ⟨bk, off, none⟩) sz f it) (hb : w.heap[bk]? = some (.cells cs t (0, 0))) (ht : t ≠ 5) (ho : w.cell? ⟨bk, off + it.length * sz + f, none⟩ = some old)
    (hm : Mk w g n) (hc : n + 40 ≤ c) (hc2 : c ≤ 9223372036854775807) (hn : n ≤ 1000000) (hsz : 0 < sz) :
    KsAt (w.setCell ⟨bk, off + it.length * sz + f, none⟩ (.slice (some ⟨g, 0, none⟩) n c)) (some ⟨bk, off, none⟩) sz f (it ++ [(g, n, c)]) := by
  have k : Only w (w.setCell ⟨bk, off + it.length * sz + f, none⟩ (.slice (some ⟨g, 0, none⟩) n c)) (fun i => i = bk) := (Only.refl w (fun i => i = bk)).setCell (p := ⟨bk, _, none⟩) (.inl rfl) _
  have hg : ∀ g' n', Mk w g' n' → ¬ g' = bk := fun g' n' h e => by
    obtain ⟨l, _, cs', h2, _⟩ := h
    rw [e, hb] at h2
    injection h2 with h2
    injection h2 with _ h2 _
    exact ht h2
  refine ⟨fun i g' n' c' e => ?_⟩
  rcases Nat.lt_or_ge i it.length with hi | hi
  · rw [List.getElem?_append_left hi] at e
    obtain ⟨⟨bk', off', e1, h1, h2⟩, h3, h4, h5, h6⟩ := h.at_ i g' n' c' e
    cases e1
    refine ⟨⟨bk, off, rfl, by rw [size_set]; exact h1, cell_ne (i := off + i * sz + f) h2 (fun he => ?_)⟩, h3, h4, h5, h6.only k (hg _ _ h6)⟩
    have h7 : i * sz = it.length * sz := by have := he.2; omega
    have := Nat.eq_of_mul_eq_mul_right hsz h7
    omega
  · have hi2 : i = it.length := by
      have := (List.getElem?_eq_some_iff.1 e).1
      simp at this
      omega
    subst hi2
    rw [List.getElem?_append_right (Nat.le_refl _), Nat.sub_self] at e
    simp only [List.getElem?_cons_zero, Option.some.injEq, Prod.mk.injEq] at e
    obtain ⟨rfl, rfl, rfl⟩ := e
    exact ⟨⟨bk, off, rfl, by rw [size_set]; exact blk_lt hb, cell_at ho⟩, hc, hc2, hn, hm.only k (hg _ _ hm)⟩
theorem KsAt.set {A : Option Addr} {b p : Nat} {cs : Array Value} {t : TypeId} {fr : Nat × Nat} {old v : Value} (h : KsAt w A sz f it) (hb : w.heap[b]? = some (.cells cs t fr)) (ht : t ≠ 5) (ho : w.cell? ⟨b, p, none⟩ = some old) (hs : ∀ A n c, old ≠ .slice A n c) : KsAt (w.setCell ⟨b, p, none⟩ v) A sz f it := by
  have k : Only w (w.setCell ⟨b, p, none⟩ v) (fun i => i = b) := (Only.refl w (fun i => i = b)).setCell (p := ⟨b, _, none⟩) (.inl rfl) _
  refine ⟨fun i g' n' c' e => ?_⟩
  obtain ⟨⟨bk', off', e1, h1, h2⟩, h3, h4, h5, h6⟩ := h.at_ i g' n' c' e
  refine ⟨⟨bk', off', e1, by rw [size_set]; exact h1, cell_ne h2 (fun he => ?_)⟩, h3, h4, h5, h6.only k (fun e => ?_)⟩
  · rw [he.1, he.2, ho] at h2
    injection h2 with h2
    exact hs _ _ _ h2
  · obtain ⟨l, _, cs', h7, _⟩ := h6
    rw [e, hb] at h7
    injection h7 with h7
    injection h7 with _ h7 _
    exact ht h7
end
/-- the blocks rise, and are new -/
def Rise (lo hi : Nat) (it : List KIt) : Prop := it.Pairwise (fun x y => x.1 < y.1) ∧ ∀ x, x ∈ it → lo ≤ x.1 ∧ x.1 < hi
theorem Rise.nil (lo hi : Nat) : Rise lo hi [] := ⟨List.Pairwise.nil, fun x h => by cases h⟩
theorem Rise.more {lo hi hi2 : Nat} {it : List KIt} (h : Rise lo hi it) (hh : hi ≤ hi2) : Rise lo hi2 it := ⟨h.1, fun x hx => ⟨(h.2 x hx).1, Nat.lt_of_lt_of_le (h.2 x hx).2 hh⟩⟩
theorem Rise.push {lo hi hi2 g n c : Nat} {it : List KIt} (h : Rise lo hi it) (hg : hi ≤ g) (hl : lo ≤ g) (h2 : g < hi2) (hh : hi ≤ hi2) : Rise lo hi2 (it ++ [(g, n, c)]) := by
  refine ⟨List.pairwise_append.2 ⟨h.1, List.pairwise_singleton _ _, fun x hx y hy => ?_⟩, fun x hx => ?_⟩
  · rw [List.mem_singleton] at hy
    subst hy
    exact Nat.lt_of_lt_of_le (h.2 x hx).2 hg
  · rcases List.mem_append.1 hx with hx | hx
    · exact (h.more hh).2 x hx
    · rw [List.mem_singleton] at hx
      subst hx
      exact ⟨hl, h2⟩
def RowB (w : World) (lo : Nat) (t : TypeId) (M : Option Addr) : Prop := ∀ bk off, M = some ⟨bk, off, none⟩ → lo ≤ bk ∧ ∃ cs, w.heap[bk]? = some (.cells cs t (0, 0))
theorem RowB.keep {w w' : World} {lo : Nat} {t : TypeId} {M : Option Addr} (h : RowB w lo t M) (hb : Below w.heap.size w w') : RowB w' lo t M := fun bk off e => by
  obtain ⟨h1, cs, h2⟩ := h bk off e
  exact ⟨h1, cs, (hb.block _ (blk_lt h2)).trans h2⟩
theorem RowB.of {α : Type} {E : Elem α} {t : TypeId} {w : World} {N : Nat → Prop} {B n c : Nat} {M : Option Addr} {l : List α} (h : OwnL E t w N B (.slice M n c) l) : RowB w B t M := fun bk off e => by
  subst e
  obtain ⟨cs, hc⟩ := h.blk (i := bk) rfl
  exact ⟨h.base_le rfl, cs, hc⟩
theorem RowB.set {w : World} {lo b p : Nat} {t : TypeId} {M : Option Addr} (h : RowB w lo t M) (v : Value) : RowB (w.setCell ⟨b, p, none⟩ v) lo t M := fun bk off e => by
  obtain ⟨h1, cs, h2⟩ := h bk off e
  by_cases hb : b = bk
  · subst hb; exact ⟨h1, _, blk_set h2 p v⟩
  · exact ⟨h1, cs, blk_far h2 (fun e => hb e.symm) _⟩
def RetLd {α : Type} (E : Elem α) (t : TypeId) (sz f : Nat) (w : World) (l : List α) (e : Ending) (w' : World) : Prop := ∃ M c it, e = .returned (.slice M l.length c) ∧ Lst E w' (fun _ => False) M c l ∧ KsAt w' M sz f it ∧ it.length = l.length ∧ Rise w.heap.size w'.heap.size it ∧ RowB w' w.heap.size t M ∧ Below w.heap.size w w'
set_option maxRecDepth 100000 in
set_option maxHeartbeats 4000000 in
theorem peersLaid_any (A : Option Addr) (a : Nat) (l : List PeerD) (w : World) (hl : Lst PeerE w (fun _ => False) A a l) (hn : l.length ≤ 1000) (hps : ∀ x, x ∈ l → x.ps.length ≤ 100000) (hk : ∀ x, x ∈ l → x.key.length ≤ 1000000) :
    Calls Tryz.prog 8 #[.slice A l.length a] w (RetLd PeerE 36 3 1 w l) := by
  have HL := Lib.hid hl
  have P1 := Lib.hid (peersO_any A a l w hl hn hps)
  have HK := Lib.hid hk
  have h1 := hl.le
  have h2 := hl.max
  clear hl hps hk
  unfold RetLd
  generalize hm : l.length = n at *
  have HN := Lib.hid hm
  clear hm
  go_enter Tryz.func8, Tryz.ntmps8
  go_wp2_with fail
  (with_reducible refine P1.out.mono ?_)
  rintro e w1 ⟨M, c, rfl, o1, hb1⟩
  obtain ⟨M', c', e1, l1⟩ := o1.lst (fun _ _ h => h)
  cases e1
  have RB1 := Lib.hid (RowB.of o1)
  have L1 := Lib.hid l1
  have B1 := Lib.hid hb1
  have m1 := l1.le
  have m2 := l1.max
  rw [HN.out] at m1 ⊢
  clear o1 l1 hb1 P1
  go_wp2_with fail
  go_loopg [4] n (fun gk i wr => ∃ (k : Nat) (it : List KIt), k ≤ n ∧ gk = n - k ∧ i = .int .i64 (k : Int) ∧ Hid (it.length = k) ∧ Hid (Lst PeerE wr (fun _ => False) M c l) ∧ Hid (KsAt wr M 3 1 it) ∧ Hid (Rise w.heap.size wr.heap.size it) ∧ Hid (RowB wr w.heap.size 36 M) ∧ Hid (Below w.heap.size w wr))
  case atStart => exact ⟨0, [], by omega, rfl, rfl, rfl, L1, KsAt.nil, Rise.nil _ _, RB1, B1⟩
  case round =>
    clear L1 RB1 B1
    obtain ⟨k, it, hk, rfl, rfl, HIL, HM, HKS, HRI, HRB, HB⟩ := hrel
    by_cases hlt : k < n
    · have i1 : (k : Int) < (n : Int) := by omega
      have i0 : (0 : Int) ≤ (k : Int) := by omega
      have HKL : Hid (k < l.length) := Lib.hid (by rw [HN.out]; exact hlt)
      obtain ⟨bk, off, A1, a1, B1, b1, rfl, hbk, x0, x1, x2, s1, s2⟩ := (HL.out.below HB.out).peer k (l[k]'HKL.out) (List.getElem?_eq_getElem HKL.out)
      have LA := Lib.hid (laid_any A1 a1 (l[k]'HKL.out).key wr s1.1 (HK.out _ (List.getElem_mem HKL.out)))
      have HLK := Lib.hid (fun (w2 : World) (c0 : Nat) (G : Option Addr) (cg bm om : Nat) (h : Lst PeerE w2 (fun _ => False) (some ⟨bm, om, none⟩) c0 l) (hG : Bs w2 G cg (l[k]'HKL.out).key) => lstP_key h HKL.out hG)
      have HKK := Lib.hid (HK.out _ (List.getElem_mem HKL.out))
      generalize (l[k]'HKL.out).key = xk at *
      clear s1 s2 x0 x2 hbk
      obtain ⟨bm, om, A2, a2, B2, b2, rfl, hbm, -, y1, -, -, -⟩ := HM.out.peer k (l[k]'HKL.out) (List.getElem?_eq_getElem HKL.out)
      have HBM := Lib.hid hbm
      have Y1 := Lib.hid y1
      clear y1 hbm
      go_wp2_with fail
      (with_reducible refine LA.out.mono ?_)
      rintro e w2 ⟨g, cg, rfl, hc1, hc2, hby, hg, hb2⟩
      obtain ⟨hlo, cs, hcs⟩ := HRB.out bm om rfl
      have hcs2 := (hb2.block _ HBM.out).trans hcs
      have y1 := (hb2.cell (p := ⟨bm, _, none⟩) HBM.out).trans Y1.out
      have z1 := blk_free hcs2 (om + k * 3 + 1)
      have hMk : Mk w2 g xk.length := ⟨xk, rfl, hby⟩
      have M3 := Lib.hid (HLK.out w2 c (some ⟨g, 0, none⟩) cg bm om (HM.out.below hb2) (byt_front hby (by omega) (by have := HKK.out; omega)))
      have K3 := Lib.hid ((HKS.out.keep hb2).put (n := xk.length) (c := cg) (old := .slice A2 (l[k]'HKL.out).key.length a2) hcs2 (by decide) (by rw [HIL.out]; exact y1) hMk hc1 hc2 HKK.out (by decide))
      rw [HIL.out] at K3
      have R3 := Lib.hid (HRI.out.push (n := xk.length) (c := cg) hg (Nat.le_trans HB.out.size hg) hMk.lt hb2.size)
      have RB3 := Lib.hid ((HRB.out.keep hb2).set (b := bm) (p := om + k * 3 + 1) (.slice (some ⟨g, 0, none⟩) xk.length cg))
      have B3 := Lib.hid (below_only (below_step HB.out hb2) ((Only.refl w2 (fun i => i = bm)).setCell (p := ⟨bm, om + k * 3 + 1, none⟩) (.inl rfl) (.slice (some ⟨g, 0, none⟩) xk.length cg)) (fun i hi => by rw [hi]; exact hlo))
      have IL3 : Hid ((it ++ [(g, xk.length, cg)]).length = k + 1) := Lib.hid (by rw [List.length_append, HIL.out]; rfl)
      have SZ3 : Hid ((w2.setCell ⟨bm, om + k * 3 + 1, none⟩ (.slice (some ⟨g, 0, none⟩) xk.length cg)).heap.size = w2.heap.size) := Lib.hid (size_set _ _ _)
      clear hby hb2 hcs hcs2 hMk hg
      go_wp2_with fail
      go_roundg (n - (k + 1))
      case measure => omega
      case rel => exact ⟨k + 1, it ++ [(g, xk.length, cg)], by omega, rfl, by go_num, IL3, M3, K3, by rw [SZ3.out]; exact R3, RB3, B3⟩
    · obtain rfl : k = n := by omega
      have i1 : ¬ (k : Int) < (k : Int) := by omega
      go_wp2_with fail
      go_ret
      exact ⟨M, c, rfl, HM.out, it, HKS.out, HIL.out, HRI.out, HRB.out, HB.out⟩
set_option maxRecDepth 100000 in
set_option maxHeartbeats 4000000 in
theorem lanesLaid_any (A : Option Addr) (a : Nat) (l : List LaneD) (w : World) (hl : Lst LaneE w (fun _ => False) A a l) (hn : l.length ≤ 1000) (hk : ∀ x, x ∈ l → x.key.length ≤ 1000000) :
    Calls Tryz.prog 9 #[.slice A l.length a] w (RetLd LaneE 43 8 0 w l) := by
  have HL := Lib.hid hl
  have P1 := Lib.hid (lanesO_any A a l w hl hn)
  have HK := Lib.hid hk
  have h1 := hl.le
  have h2 := hl.max
  clear hl hk
  unfold RetLd
  generalize hm : l.length = n at *
  have HN := Lib.hid hm
  clear hm
  go_enter Tryz.func9, Tryz.ntmps9
  go_wp2_with fail
  (with_reducible refine P1.out.mono ?_)
  rintro e w1 ⟨M, c, rfl, o1, hb1⟩
  obtain ⟨M', c', e1, l1⟩ := o1.lst (fun _ _ h => h)
  cases e1
  have RB1 := Lib.hid (RowB.of o1)
  have L1 := Lib.hid l1
  have B1 := Lib.hid hb1
  have m1 := l1.le
  have m2 := l1.max
  rw [HN.out] at m1 ⊢
  clear o1 l1 hb1 P1
  go_wp2_with fail
  go_loopg [4] n (fun gk i wr => ∃ (k : Nat) (it : List KIt), k ≤ n ∧ gk = n - k ∧ i = .int .i64 (k : Int) ∧ Hid (it.length = k) ∧ Hid (Lst LaneE wr (fun _ => False) M c l) ∧ Hid (KsAt wr M 8 0 it) ∧ Hid (Rise w.heap.size wr.heap.size it) ∧ Hid (RowB wr w.heap.size 43 M) ∧ Hid (Below w.heap.size w wr))
  case atStart => exact ⟨0, [], by omega, rfl, rfl, rfl, L1, KsAt.nil, Rise.nil _ _, RB1, B1⟩
  case round =>
    clear L1 RB1 B1
    obtain ⟨k, it, hk, rfl, rfl, HIL, HM, HKS, HRI, HRB, HB⟩ := hrel
    by_cases hlt : k < n
    · have i1 : (k : Int) < (n : Int) := by omega
      have i0 : (0 : Int) ≤ (k : Int) := by omega
      have HKL : Hid (k < l.length) := Lib.hid (by rw [HN.out]; exact hlt)
      obtain ⟨bk, off, A1, a1, rfl, hbk, x1, x2, x3, x4, x5, x6, x7, x8, s1, lb⟩ := (HL.out.below HB.out).lane k (l[k]'HKL.out) (List.getElem?_eq_getElem HKL.out)
      have LA := Lib.hid (laid_any A1 a1 (l[k]'HKL.out).key wr s1.1 (HK.out _ (List.getElem_mem HKL.out)))
      have HLK := Lib.hid (fun (w2 : World) (c0 : Nat) (G : Option Addr) (cg bm om : Nat) (h : Lst LaneE w2 (fun _ => False) (some ⟨bm, om, none⟩) c0 l) (hG : Bs w2 G cg (l[k]'HKL.out).key) => lstL_key h HKL.out hG)
      have HKK := Lib.hid (HK.out _ (List.getElem_mem HKL.out))
      generalize (l[k]'HKL.out).key = xk at *
      clear s1 lb x2 x3 x4 x5 x6 x7 x8 hbk
      obtain ⟨bm, om, A2, a2, rfl, hbm, y1, -, -, -, -, -, -, -, -, -⟩ := HM.out.lane k (l[k]'HKL.out) (List.getElem?_eq_getElem HKL.out)
      have HBM := Lib.hid hbm
      have Y1 := Lib.hid y1
      clear y1 hbm
      go_wp2_with fail
      (with_reducible refine LA.out.mono ?_)
      rintro e w2 ⟨g, cg, rfl, hc1, hc2, hby, hg, hb2⟩
      obtain ⟨hlo, cs, hcs⟩ := HRB.out bm om rfl
      have hcs2 := (hb2.block _ HBM.out).trans hcs
      have y1 := (hb2.cell (p := ⟨bm, _, none⟩) HBM.out).trans Y1.out
      have z1 := blk_free hcs2 (om + k * 8)
      have hMk : Mk w2 g xk.length := ⟨xk, rfl, hby⟩
      have M3 := Lib.hid (HLK.out w2 c (some ⟨g, 0, none⟩) cg bm om (HM.out.below hb2) (byt_front hby (by omega) (by have := HKK.out; omega)))
      have K3 := Lib.hid ((HKS.out.keep hb2).put (n := xk.length) (c := cg) (old := .slice A2 (l[k]'HKL.out).key.length a2) hcs2 (by decide) (by rw [HIL.out]; exact y1) hMk hc1 hc2 HKK.out (by decide))
      rw [HIL.out] at K3
      have R3 := Lib.hid (HRI.out.push (n := xk.length) (c := cg) hg (Nat.le_trans HB.out.size hg) hMk.lt hb2.size)
      have RB3 := Lib.hid ((HRB.out.keep hb2).set (b := bm) (p := om + k * 8) (.slice (some ⟨g, 0, none⟩) xk.length cg))
      have B3 := Lib.hid (below_only (below_step HB.out hb2) ((Only.refl w2 (fun i => i = bm)).setCell (p := ⟨bm, om + k * 8, none⟩) (.inl rfl) (.slice (some ⟨g, 0, none⟩) xk.length cg)) (fun i hi => by rw [hi]; exact hlo))
      have IL3 : Hid ((it ++ [(g, xk.length, cg)]).length = k + 1) := Lib.hid (by rw [List.length_append, HIL.out]; rfl)
      have SZ3 : Hid ((w2.setCell ⟨bm, om + k * 8, none⟩ (.slice (some ⟨g, 0, none⟩) xk.length cg)).heap.size = w2.heap.size) := Lib.hid (size_set _ _ _)
      clear hby hb2 hcs hcs2 hMk hg
      go_wp2_with fail
      go_roundg (n - (k + 1))
      case measure => omega
      case rel => exact ⟨k + 1, it ++ [(g, xk.length, cg)], by omega, rfl, by go_num, IL3, M3, K3, by rw [SZ3.out]; exact R3, RB3, B3⟩
    · obtain rfl : k = n := by omega
      have i1 : ¬ (k : Int) < (k : Int) := by omega
      go_wp2_with fail
      go_ret
      exact ⟨M, c, rfl, HM.out, it, HKS.out, HIL.out, HRI.out, HRB.out, HB.out⟩
end Go.Proofs.YtafdhccdjbfepaaGreat.Lst
/- Facts that stay when new memory is made: one word for all of them. -/
namespace Go.Proofs.YtafdhccdjbfepaaGreat.Lst
open Go.RowKit Go.Proofs.YtafdhccdjbfepaaGreat.K Go.Proofs.YtafdhccdjbfepaaGreat.Help Go.Proofs.YtafdhccdjbfepaaGreat.Pfx Go.Proofs.YtafdhccdjbfepaaGreat.Peer
set_option linter.unusedVariables false

/-- what stays when old memory stays: p of w, q of w' -/
class Stb (w w' : World) (p : Prop) (q : outParam Prop) : Prop where
  keep : p → Below w.heap.size w w' → q
section
variable {w w' : World}
instance stb_and {p q r s : Prop} [Stb w w' p q] [Stb w w' r s] : Stb w w' (p ∧ r) (q ∧ s) := ⟨fun h hb => ⟨Stb.keep h.1 hb, Stb.keep h.2 hb⟩⟩
instance stb_true : Stb w w' True True := ⟨fun h _ => h⟩
instance stb_bs {A : Option Addr} {c : Nat} {l : List UInt8} : Stb w w' (Bs w A c l) (Bs w' A c l) := ⟨fun h hb => h.below hb⟩
instance stb_bsn {N : Nat → Prop} {A : Option Addr} {c : Nat} {l : List UInt8} : Stb w w' (BsN w N A c l) (BsN w' N A c l) := ⟨fun h hb => h.below hb⟩
instance stb_own {B : Nat} {v : Value} {l : List UInt8} : Stb w w' (Own w B v l) (Own w' B v l) := ⟨fun h hb => h.below hb⟩
instance stb_lst {α : Type} {E : Elem α} {N : Nat → Prop} {A : Option Addr} {c : Nat} {l : List α} : Stb w w' (Lst E w N A c l) (Lst E w' N A c l) := ⟨fun h hb => h.below hb⟩
instance stb_ownl {α : Type} {E : Elem α} {t : TypeId} {N : Nat → Prop} {B : Nat} {v : Value} {l : List α} : Stb w w' (OwnL E t w N B v l) (OwnL E t w' N B v l) := ⟨fun h hb => h.below hb⟩
instance stb_below {w0 : World} : Stb w w' (Below w0.heap.size w0 w) (Below w0.heap.size w0 w') := ⟨fun h hb => below_step h hb⟩
instance stb_blk {g : Nat} {o : Obj} : Stb w w' (w.heap[g]? = some o) (w'.heap[g]? = some o) := ⟨fun h hb => (hb.block g (blk_lt h)).trans h⟩
instance stb_byt {g : Nat} {l : List UInt8} : Stb w w' (Byt w g l) (Byt w' g l) := ⟨fun h hb => h.keep hb⟩
instance stb_tmap {b n : Nat} {l : List RowD} : Stb w w' (TMap w b n l) (TMap w' b n l) := ⟨fun h hb => h.keep hb⟩
theorem rows_below {B n sz : Nat} {t : TypeId} {v : Value} {xs : List Value} (h : w.ownsRow B t sz v n xs) (hb : Below w.heap.size w w') : w'.ownsRow B t sz v n xs := by
  refine ⟨h.1, ?_⟩
  rcases h.2 with h2 | ⟨g, cap, cur, hv, hg, hh, r⟩
  · exact .inl h2
  · exact .inr ⟨g, cap, cur, hv, hg, (hb.block g (blk_lt hh)).trans hh, r⟩
instance stb_rows {B n sz : Nat} {t : TypeId} {v : Value} {xs : List Value} : Stb w w' (w.ownsRow B t sz v n xs) (w'.ownsRow B t sz v n xs) := ⟨fun h hb => rows_below h hb⟩
theorem hkeep {p q : Prop} (hb : Below w.heap.size w w') (h : Hid p) [Stb w w' p q] : Hid q := Lib.hid (Stb.keep h.out hb)
end
theorem hand {p q : Prop} (h : Hid p) (k : q) : Hid (q ∧ p) := Lib.hid ⟨k, h.out⟩
theorem hstart {p : Prop} (k : p) : Hid (p ∧ True) := Lib.hid ⟨k, trivial⟩
example {w w1 w0 : World} {A : Option Addr} {l : List UInt8} (hb : Below w.heap.size w w1) (S : Hid (Bs w A 3 l ∧ Below w0.heap.size w0 w ∧ True)) : Hid (Bs w1 A 3 l ∧ Below w0.heap.size w0 w1 ∧ True) := by
  have S := hkeep hb S
  exact S
/-- a block may be written over without harm to bytes: it is cells of another type -/
def NotU8 (w : World) (i : Nat) : Prop := ∃ cs t fr, w.heap[i]? = some (.cells cs t fr) ∧ t ≠ 5
theorem Byt.far {w w' : World} {g : Nat} {L : List UInt8} {T : Nat → Prop} (h : Byt w g L) (k : Only w w' T) (hT : ∀ i, T i → i < w.heap.size → NotU8 w i) : Byt w' g L :=
  h.only k (fun ht => by
    obtain ⟨cs, t, fr, h1, h2⟩ := hT g ht h.lt
    obtain ⟨cs', h3, _⟩ := h
    rw [h3] at h1
    injection h1 with h1
    injection h1 with _ h1 _
    exact h2 h1.symm)
theorem rows_notU8 {w : World} {B n sz : Nat} {t : TypeId} {v : Value} {xs : List Value} (h : w.ownsRow B t sz v n xs) (ht : t ≠ 5) {i : Nat} (hi : v.ownBlock = some i) : NotU8 w i := by
  rcases h.2 with ⟨rfl, _⟩ | ⟨g, cap, cur, rfl, _, hh, _⟩
  · simp [Value.ownBlock] at hi
  · have : g = i := by simpa [Value.ownBlock] using hi
    subst this
    exact ⟨_, _, _, hh, ht⟩
theorem rows_lt {w : World} {B n sz : Nat} {t : TypeId} {v : Value} {xs : List Value} (h : w.ownsRow B t sz v n xs) {i : Nat} (hi : v.ownBlock = some i) : i < w.heap.size := by
  rcases h.2 with ⟨rfl, _⟩ | ⟨g, cap, cur, rfl, _, hh, _⟩
  · simp [Value.ownBlock] at hi
  · have : g = i := by simpa [Value.ownBlock] using hi
    subst this
    exact blk_lt hh
theorem rows_base {w : World} {B n sz : Nat} {t : TypeId} {v : Value} {xs : List Value} (h : w.ownsRow B t sz v n xs) {i : Nat} (hi : v.ownBlock = some i) : B ≤ i := by
  rcases h.2 with ⟨rfl, _⟩ | ⟨g, cap, cur, rfl, hb, hh, _⟩
  · simp [Value.ownBlock] at hi
  · have : g = i := by simpa [Value.ownBlock] using hi
    omega
theorem rows_blk {w : World} {B n sz : Nat} {t : TypeId} {v : Value} {xs : List Value} (h : w.ownsRow B t sz v n xs) {i : Nat} (hi : v.ownBlock = some i) : ∃ cs, w.heap[i]? = some (.cells cs t (0, 0)) := by
  rcases h.2 with ⟨rfl, _⟩ | ⟨g, cap, cur, rfl, hb, hh, _⟩
  · simp [Value.ownBlock] at hi
  · have : g = i := by simpa [Value.ownBlock] using hi
    subst this
    exact ⟨_, hh⟩
end Go.Proofs.YtafdhccdjbfepaaGreat.Lst
/- The walk of row: a row in new memory. -/
namespace Go.Proofs.YtafdhccdjbfepaaGreat.Help
open Go.RowKit Go.Proofs.YtafdhccdjbfepaaGreat.K
set_option linter.unusedVariables false

end Go.Proofs.YtafdhccdjbfepaaGreat.Help
/- reads: the program reads a row as the document does. -/
namespace Go.Proofs.YtafdhccdjbfepaaGreat.Lst
open Go.RowKit Go.Proofs.YtafdhccdjbfepaaGreat.K Go.Proofs.YtafdhccdjbfepaaGreat.Help Go.Proofs.YtafdhccdjbfepaaGreat.Pfx Go.Proofs.YtafdhccdjbfepaaGreat.Peer
set_option linter.unusedVariables false
instance stb_ps {w w' : World} {A : Option Addr} {c : Nat} {l : List PfxI} : Stb w w' (Ps w A c l) (Ps w' A c l) := ⟨fun h hb => h.below hb⟩
set_option maxRecDepth 100000 in
set_option maxHeartbeats 4000000 in
theorem reads_any (A B : Option Addr) (a b : Nat) (k x : List UInt8) (w : World) (hk : Bs w A a k) (hx : Bs w B b x) :
    Calls Tryz.prog 23 #[.agg #[.slice A k.length a, .slice B x.length b]] w (Pure w (.bool true)) := by
  have G1 := Lib.hid (fun w h h' => getPeer_any A B a b k x w h h')
  have G2 := Lib.hid (fun w h h' => refGetPeer_any A B a b k x w h h')
  generalize peerGet k x = got at *
  obtain ⟨⟨gl, gk, gp⟩, gc⟩ := got
  have SP := Lib.hid (fun A B C D a b c e w h1 h2 h3 h4 => samePeer_self A B C D a b c e ⟨gl, gk, gp⟩ w h1 h2 h3 h4)
  have G3 := Lib.hid (fun w h h' => getLane_any A B a b k x w h h')
  have G4 := Lib.hid (fun w h h' => refGetLane_any A B a b k x w h h')
  generalize laneGet k x = got at *
  obtain ⟨⟨lk, ls, lc, ln, lq, le, lt, lu⟩, hc⟩ := got
  have SL := Lib.hid (fun A B a b w h1 h2 => sameLane_refl A B a b ⟨lk, ls, lc, ln, lq, le, lt, lu⟩ w h1 h2)
  have G5 := Lib.hid (fun w h h' => getBoots_any A B a b k x w h h')
  have G6 := Lib.hid (fun w h h' => refGetBoots_any A B a b k x w h h')
  rw [takes_rd] at G5
  obtain ⟨u, v, huv⟩ := readAs_cases (putBoots (Help.asInt (rdAt x 0 8))) k x (Help.asInt (rdAt x 0 8)) 0
  rw [huv] at G5 G6
  clear huv
  unfold peerV at SP
  unfold laneV at SL
  dsimp only at SP SL
  have hb0 := below_alloc (Below.refl w.heap.size w) (.cells #[.slice A k.length a, .slice B x.length b] 47)
  have S0 := hand (hand (hand (hstart hb0) (hx.below hb0)) (hk.below hb0)) (blk_new w (.cells #[.slice A k.length a, .slice B x.length b] 47))
  clear hk hx hb0
  generalize hkl : k.length = kl at *
  generalize hxl : x.length = xl at *
  clear hkl hxl
  go_enter Tryz.func23, Tryz.ntmps23
  go_wp2_with fail
  refine (G1.out _ S0.out.2.1 S0.out.2.2.1).mono ?_
  rintro e w1 ⟨A1, a1, B1, b1, rfl, s1, p1, hb1, -⟩
  unfold peerV
  dsimp only at s1 p1 ⊢
  have hq := below_alloc (Below.refl w1.heap.size w1) (.cells #[.int .i64 gl, .slice A1 gk.length a1, .slice B1 gp.length b1] 36)
  have S1 := hand (hand (hand (hkeep hq (hkeep hb1 S0)) (s1.below hq)) (p1.below hq)) (blk_new w1 (.cells #[.int .i64 gl, .slice A1 gk.length a1, .slice B1 gp.length b1] 36))
  have y0 := (blk_cell S1.out.2.2.2.1 0).trans (b := some (Value.slice A kl a)) rfl
  have y1 := (blk_cell S1.out.2.2.2.1 1).trans (b := some (Value.slice B xl b)) rfl
  clear s1 p1 hb1 hq S0 G1
  go_wp2_with fail
  refine (G2.out _ S1.out.2.2.2.2.1 S1.out.2.2.2.2.2.1).mono ?_
  rintro e w2 ⟨A2, a2, B2, b2, rfl, s2, p2, hb2, -⟩
  unfold peerV
  dsimp only at s2 p2 ⊢
  have hq := below_alloc (Below.refl w2.heap.size w2) (.cells #[.int .i64 gl, .slice A2 gk.length a2, .slice B2 gp.length b2] 36)
  have S2 := hand (hand (hand (hkeep hq (hkeep hb2 S1)) (s2.below hq)) (p2.below hq)) (blk_new w2 (.cells #[.int .i64 gl, .slice A2 gk.length a2, .slice B2 gp.length b2] 36))
  clear s2 p2 hb2 hq S1 G2 y0 y1
  have y0 := (blk_cell S2.out.2.2.2.2.2.2.1 0).trans (b := some (Value.slice A kl a)) rfl
  have y1 := (blk_cell S2.out.2.2.2.2.2.2.1 1).trans (b := some (Value.slice B xl b)) rfl
  go_wp2_with fail
  refine (G3.out _ S2.out.2.2.2.2.2.2.2.1 S2.out.2.2.2.2.2.2.2.2.1).mono ?_
  rintro e w3 ⟨A3, a3, rfl, s3, hb3, -⟩
  unfold laneV
  dsimp only at s3 ⊢
  have hq := below_alloc (Below.refl w3.heap.size w3) (.cells #[.slice A3 lk.length a3, .int .i64 ls, .int .i64 lc, .int .i64 ln, .int .u64 (lq : Int), .int .u64 (le : Int), .int .i64 lt, .int .i64 lu] 43)
  have S3 := hand (hand (hkeep hq (hkeep hb3 S2)) (s3.below hq)) (blk_new w3 (.cells #[.slice A3 lk.length a3, .int .i64 ls, .int .i64 lc, .int .i64 ln, .int .u64 (lq : Int), .int .u64 (le : Int), .int .i64 lt, .int .i64 lu] 43))
  clear s3 hb3 hq S2 G3 y0 y1
  have y0 := (blk_cell S3.out.2.2.2.2.2.2.2.2.1 0).trans (b := some (Value.slice A kl a)) rfl
  have y1 := (blk_cell S3.out.2.2.2.2.2.2.2.2.1 1).trans (b := some (Value.slice B xl b)) rfl
  go_wp2_with fail
  refine (G4.out _ S3.out.2.2.2.2.2.2.2.2.2.1 S3.out.2.2.2.2.2.2.2.2.2.2.1).mono ?_
  rintro e w4 ⟨A4, a4, rfl, s4, hb4, -⟩
  unfold laneV
  dsimp only at s4 ⊢
  have hq := below_alloc (Below.refl w4.heap.size w4) (.cells #[.slice A4 lk.length a4, .int .i64 ls, .int .i64 lc, .int .i64 ln, .int .u64 (lq : Int), .int .u64 (le : Int), .int .i64 lt, .int .i64 lu] 43)
  have S4 := hand (hand (hkeep hq (hkeep hb4 S3)) (s4.below hq)) (blk_new w4 (.cells #[.slice A4 lk.length a4, .int .i64 ls, .int .i64 lc, .int .i64 ln, .int .u64 (lq : Int), .int .u64 (le : Int), .int .i64 lt, .int .i64 lu] 43))
  clear s4 hb4 hq S3 G4 y0 y1
  have y0 := (blk_cell S4.out.2.2.2.2.2.2.2.2.2.2.1 0).trans (b := some (Value.slice A kl a)) rfl
  have y1 := (blk_cell S4.out.2.2.2.2.2.2.2.2.2.2.1 1).trans (b := some (Value.slice B xl b)) rfl
  go_wp2_with fail
  refine (G5.out _ S4.out.2.2.2.2.2.2.2.2.2.2.2.1 S4.out.2.2.2.2.2.2.2.2.2.2.2.2.1).mono ?_
  rintro e w5 ⟨rfl, hb5⟩
  have S5 := hkeep hb5 S4
  clear hb5 S4 G5 y0 y1
  have y0 := (blk_cell S5.out.2.2.2.2.2.2.2.2.2.2.1 0).trans (b := some (Value.slice A kl a)) rfl
  have y1 := (blk_cell S5.out.2.2.2.2.2.2.2.2.2.2.1 1).trans (b := some (Value.slice B xl b)) rfl
  go_wp2_with fail
  refine (G6.out _ S5.out.2.2.2.2.2.2.2.2.2.2.2.1 S5.out.2.2.2.2.2.2.2.2.2.2.2.2.1).mono ?_
  rintro e w6 ⟨rfl, hb6⟩
  have S6 := hkeep hb6 S5
  clear hb6 S5 G6 y0 y1
  have p0 := (blk_cell S6.out.2.2.2.2.2.2.2.1 0).trans (b := some (Value.int .i64 gl)) rfl
  have p1 := (blk_cell S6.out.2.2.2.2.2.2.2.1 1).trans (b := some (Value.slice A1 gk.length a1)) rfl
  have p2 := (blk_cell S6.out.2.2.2.2.2.2.2.1 2).trans (b := some (Value.slice B1 gp.length b1)) rfl
  have q0 := (blk_cell S6.out.2.2.2.2.1 0).trans (b := some (Value.int .i64 gl)) rfl
  have q1 := (blk_cell S6.out.2.2.2.2.1 1).trans (b := some (Value.slice A2 gk.length a2)) rfl
  have q2 := (blk_cell S6.out.2.2.2.2.1 2).trans (b := some (Value.slice B2 gp.length b2)) rfl
  have SP1 := Lib.hid (SP.out A1 B1 A2 B2 a1 b1 a2 b2 _ S6.out.2.2.2.2.2.2.2.2.2.1 S6.out.2.2.2.2.2.2.1 S6.out.2.2.2.2.2.2.2.2.1 S6.out.2.2.2.2.2.1)
  go_wp2_with fail
  refine SP1.out.mono ?_
  rintro e w7 ⟨rfl, hb7⟩
  have S7 := hkeep hb7 S6
  clear hb7 S6 SP SP1 p0 p1 p2 q0 q1 q2
  have p0 := (blk_cell S7.out.2.2.1 0).trans (b := some (Value.slice A3 lk.length a3)) rfl
  have p1 := (blk_cell S7.out.2.2.1 1).trans (b := some (Value.int .i64 ls)) rfl
  have p2 := (blk_cell S7.out.2.2.1 2).trans (b := some (Value.int .i64 lc)) rfl
  have p3 := (blk_cell S7.out.2.2.1 3).trans (b := some (Value.int .i64 ln)) rfl
  have p4 := (blk_cell S7.out.2.2.1 4).trans (b := some (Value.int .u64 (lq : Int))) rfl
  have p5 := (blk_cell S7.out.2.2.1 5).trans (b := some (Value.int .u64 (le : Int))) rfl
  have p6 := (blk_cell S7.out.2.2.1 6).trans (b := some (Value.int .i64 lt)) rfl
  have p7 := (blk_cell S7.out.2.2.1 7).trans (b := some (Value.int .i64 lu)) rfl
  have q0 := (blk_cell S7.out.1 0).trans (b := some (Value.slice A4 lk.length a4)) rfl
  have q1 := (blk_cell S7.out.1 1).trans (b := some (Value.int .i64 ls)) rfl
  have q2 := (blk_cell S7.out.1 2).trans (b := some (Value.int .i64 lc)) rfl
  have q3 := (blk_cell S7.out.1 3).trans (b := some (Value.int .i64 ln)) rfl
  have q4 := (blk_cell S7.out.1 4).trans (b := some (Value.int .u64 (lq : Int))) rfl
  have q5 := (blk_cell S7.out.1 5).trans (b := some (Value.int .u64 (le : Int))) rfl
  have q6 := (blk_cell S7.out.1 6).trans (b := some (Value.int .i64 lt)) rfl
  have q7 := (blk_cell S7.out.1 7).trans (b := some (Value.int .i64 lu)) rfl
  have SL1 := Lib.hid (SL.out A3 A4 a3 a4 _ S7.out.2.2.2.1 S7.out.2.1)
  go_wp2_with fail
  refine SL1.out.mono ?_
  rintro e w8 ⟨rfl, hb8⟩
  have B8 := Lib.hid (below_step S7.out.2.2.2.2.2.2.2.2.2.2.2.2.2.1 hb8)
  clear hb8 S7 SL SL1 p0 p1 p2 p3 p4 p5 p6 p7 q0 q1 q2 q3 q4 q5 q6 q7
  go_wp2_with (go_at_call 21; refine (num_any _ _).mono ?_; rintro e w' ⟨rfl, rfl⟩)
  go_ret
  exact ⟨by first | rfl | simp, B8.out⟩
end Go.Proofs.YtafdhccdjbfepaaGreat.Lst
/- The two lists of State; its first loop. -/
namespace Go.Proofs.YtafdhccdjbfepaaGreat.Lst
open Go.RowKit Go.Proofs.YtafdhccdjbfepaaGreat.K Go.Proofs.YtafdhccdjbfepaaGreat.Help Go.Proofs.YtafdhccdjbfepaaGreat.Pfx Go.Proofs.YtafdhccdjbfepaaGreat.Peer
set_option linter.unusedVariables false

/-- State's two lists under way -/
structure StW2 (w2 wr : World) (vp vl : Value) (ps : List PeerD) (ls : List LaneD) : Prop where
  p : OwnL PeerE 36 wr (fun k => vl.ownBlock = some k) w2.heap.size vp ps
  l : OwnL LaneE 43 wr (fun k => vp.ownBlock = some k) w2.heap.size vl ls
  b : Below w2.heap.size w2 wr
section
variable {w2 wr w1 : World} {vp vl v1 : Value} {ps : List PeerD} {ls : List LaneD}
theorem StW2.start (w2 : World) : StW2 w2 w2 (.slice none 0 0) (.slice none 0 0) [] [] := ⟨OwnL.nil _ _ _ _ _, OwnL.nil _ _ _ _ _, Below.refl _ _⟩
theorem StW2.step (h : StW2 w2 wr vp vl ps ls) (hb : Below wr.heap.size wr w1) : StW2 w2 w1 vp vl ps ls := ⟨h.p.below hb, h.l.below hb, below_step h.b hb⟩
theorem StW2.apart (h : StW2 w2 wr vp vl ps ls) (i : Nat) (h1 : vl.ownBlock = some i) : ¬ vp.ownBlock = some i := fun h2 => by
  obtain ⟨c1, e1⟩ := h.l.blk h1
  obtain ⟨c2, e2⟩ := h.p.blk h2
  exact blk_ne e1 e2 (by decide) rfl
theorem StW2.pushP (h : StW2 w2 wr vp vl ps ls) {x : PeerD} (o : OwnL PeerE 36 w1 (fun k => vl.ownBlock = some k) w2.heap.size v1 (ps ++ [x])) (k : Only wr w1 (fun k => vp.ownBlock = some k)) (hn : ∀ i, v1.ownBlock = some i → vp.ownBlock = some i ∨ wr.heap.size ≤ i) :
    StW2 w2 w1 v1 vl (ps ++ [x]) ls := by
  refine ⟨o, ?_, below_only h.b k (fun i hi => h.p.base_le hi)⟩
  have h1 := h.l.reno (N' := fun k => vp.ownBlock = some k ∨ v1.ownBlock = some k) (fun i hi => hi.elim .inl (hn i))
  exact (h1.only k (fun i hi => h.apart i hi) (fun i _ hi => .inl hi)).reno (fun i hi => .inl (.inr hi))
theorem StW2.pushL (h : StW2 w2 wr vp vl ps ls) {x : LaneD} (o : OwnL LaneE 43 w1 (fun k => vp.ownBlock = some k) w2.heap.size v1 (ls ++ [x])) (k : Only wr w1 (fun k => vl.ownBlock = some k)) (hn : ∀ i, v1.ownBlock = some i → vl.ownBlock = some i ∨ wr.heap.size ≤ i) :
    StW2 w2 w1 vp v1 ps (ls ++ [x]) := by
  refine ⟨?_, o, below_only h.b k (fun i hi => h.l.base_le hi)⟩
  have h1 := h.p.reno (N' := fun k => vl.ownBlock = some k ∨ v1.ownBlock = some k) (fun i hi => hi.elim .inl (hn i))
  exact (h1.only k (fun i hi h2 => h.apart i h2 hi) (fun i _ hi => .inl hi)).reno (fun i hi => .inl (.inr hi))
theorem StW2.freshP (h : StW2 w2 wr vp vl ps ls) {A B : Option Addr} {a b : Nat} {x : PeerD} (h1 : Bs w1 A a x.key) (h2 : Ps w1 B b x.ps) (n1 : Nw wr A) (n2 : Nw wr B) :
    PeerE.R w1 (fun k => vl.ownBlock = some k ∨ vp.ownBlock = some k) [Value.int .i64 x.link, .slice A x.key.length a, .slice B x.ps.length b] x := by
  have hN : ∀ i, (vl.ownBlock = some i ∨ vp.ownBlock = some i) → i < wr.heap.size := fun i hi => hi.elim (fun e => h.l.lt e) (fun e => h.p.lt e)
  exact ⟨A, a, B, b, rfl, Bs.fresh h1 n1 hN, Ps.fresh h2 n2 hN⟩
theorem StW2.freshL (h : StW2 w2 wr vp vl ps ls) {A : Option Addr} {a : Nat} {x : LaneD} (h1 : Bs w1 A a x.key) (h2 : LaneB x) (n1 : Nw wr A) :
    LaneE.R w1 (fun k => vp.ownBlock = some k ∨ vl.ownBlock = some k) [Value.slice A x.key.length a, .int .i64 x.side, .int .i64 x.cur, .int .i64 x.next, .int .u64 (x.sc : Int), .int .u64 (x.ceil : Int), .int .i64 x.sec, .int .i64 x.nano] x := by
  have hN : ∀ i, (vp.ownBlock = some i ∨ vl.ownBlock = some i) → i < wr.heap.size := fun i hi => hi.elim (fun e => h.p.lt e) (fun e => h.l.lt e)
  exact ⟨A, a, rfl, Bs.fresh h1 n1 hN, h2⟩
theorem StW2.fill (h : StW2 w2 wr vp vl ps ls) {w5 wf : World} {g : Nat} (hb : Below wr.heap.size wr w5) (k : Only w5 wf (fun i => i = g)) (hg : wr.heap.size ≤ g) : StW2 w2 wf vp vl ps ls := by
  have h1 := h.p.reno (N' := fun k => vl.ownBlock = some k ∨ k = g) (fun i hi => hi.elim .inl (fun e => .inr (by omega)))
  have h2 := h.l.reno (N' := fun k => vp.ownBlock = some k ∨ k = g) (fun i hi => hi.elim .inl (fun e => .inr (by omega)))
  refine ⟨?_, ?_, below_only (below_step h.b hb) k (fun i hi => by have := h.b.size; omega)⟩
  · exact ((h1.below hb).only k (fun i hi e => by have := h.p.lt hi; omega) (fun i _ hi => .inr hi)).reno (fun i hi => .inl (.inl hi))
  · exact ((h2.below hb).only k (fun i hi e => by have := h.l.lt hi; omega) (fun i _ hi => .inr hi)).reno (fun i hi => .inl (.inl hi))
theorem StW2.boxP (h : StW2 w2 wr vp vl ps ls) {w5 : World} {g : Nat} (hb : Below wr.heap.size wr w5) (hg : wr.heap.size ≤ g) (hx : PBox w5 g 0 none 0 0 none 0 0) {A B : Option Addr} {a b : Nat} {x : PeerD} (h1 : Bs w5 A a x.key) (h2 : Ps w5 B b x.ps) (n1 : Nw wr A) (n2 : Nw wr B) :
    StW2 w2 (fill3 w5 g x.link A x.key.length a B x.ps.length b) vp vl ps ls ∧ PBox (fill3 w5 g x.link A x.key.length a B x.ps.length b) g x.link A x.key.length a B x.ps.length b
    ∧ PeerE.R (fill3 w5 g x.link A x.key.length a B x.ps.length b) (fun k => vl.ownBlock = some k ∨ vp.ownBlock = some k) [Value.int .i64 x.link, .slice A x.key.length a, .slice B x.ps.length b] x ∧ (fill3 w5 g x.link A x.key.length a B x.ps.length b).heap.size = w5.heap.size := by
  have hf := hx.fill x.link A x.key.length a B x.ps.length b
  exact ⟨h.fill hb hf.2 hg, hf.1, h.freshP (hx.bs h1 hf.2) (hx.ps h2 hf.2) n1 n2, by simp [fill3]⟩
theorem StW2.boxL (h : StW2 w2 wr vp vl ps ls) {w5 : World} {g : Nat} (hb : Below wr.heap.size wr w5) (hg : wr.heap.size ≤ g) (hx : w5.heap[g]? = some (.cells (lnC none 0 0 0 0 0 0 0 0 0) 43 (0, 0))) {A : Option Addr} {a : Nat} {x : LaneD} (h1 : Bs w5 A a x.key) (h2 : LaneB x) (n1 : Nw wr A) :
    StW2 w2 (fill8 w5 g A x.key.length a x.side x.cur x.next x.sc x.ceil x.sec x.nano) vp vl ps ls ∧ (fill8 w5 g A x.key.length a x.side x.cur x.next x.sc x.ceil x.sec x.nano).heap[g]? = some (.cells (lnC A x.key.length a x.side x.cur x.next x.sc x.ceil x.sec x.nano) 43 (0, 0))
    ∧ LaneE.R (fill8 w5 g A x.key.length a x.side x.cur x.next x.sc x.ceil x.sec x.nano) (fun k => vp.ownBlock = some k ∨ vl.ownBlock = some k) [Value.slice A x.key.length a, .int .i64 x.side, .int .i64 x.cur, .int .i64 x.next, .int .u64 (x.sc : Int), .int .u64 (x.ceil : Int), .int .i64 x.sec, .int .i64 x.nano] x
    ∧ (fill8 w5 g A x.key.length a x.side x.cur x.next x.sc x.ceil x.sec x.nano).heap.size = w5.heap.size := by
  have h0 : RB wr w5 (fun k => k = g) A a x.key g 43 (lnC none 0 0 0 0 0 0 0 0 0) := ⟨hx, lnC_noU8 _ _ _ _ _ _ _ _ _ _, h1, Only.of_below hb _, hg⟩
  have hf := h0.fill8 A x.key.length a x.side x.cur x.next x.sc x.ceil x.sec x.nano
  have ho : Only w5 (fill8 w5 g A x.key.length a x.side x.cur x.next x.sc x.ceil x.sec x.nano) (fun k => k = g) := by
    unfold fill8
    exact ((((((((Only.refl w5 (fun k => k = g)).setCell (p := ⟨g, 0, none⟩) (.inl rfl) _).setCell (p := ⟨g, 1, none⟩) (.inl rfl) _).setCell (p := ⟨g, 2, none⟩) (.inl rfl) _).setCell (p := ⟨g, 3, none⟩) (.inl rfl) _).setCell (p := ⟨g, 4, none⟩) (.inl rfl) _).setCell (p := ⟨g, 5, none⟩) (.inl rfl) _).setCell (p := ⟨g, 6, none⟩) (.inl rfl) _).setCell (p := ⟨g, 7, none⟩) (.inl rfl) _
  exact ⟨h.fill hb ho hg, hf.r, h.freshL hf.bs h2 n1, by simp [fill8]⟩
end
theorem blk_new2 (w : World) (q1 q2 : Obj) : ((w.alloc q1).alloc q2).heap[w.heap.size + 1]? = some q2 := by
  have := blk_new (w.alloc q1) q2
  simpa using this
theorem stepK_some (l : List RowD) (s : T3) (k : List UInt8) : stepK l (some s) k = stepO s k (valOf l k) := rfl
theorem getBoots2 (A B : Option Addr) (c d : Nat) (k v : List UInt8) (w : World) (ha : Bs w A c k) (hb : Bs w B d v) :
    Calls Tryz.prog 51 #[.agg #[.slice A k.length c, .slice B v.length d]] w (Pure w (.tuple #[.int .i64 (bootsGet k v).1, .int .i64 (bootsGet k v).2])) := by
  have h := getBoots_any A B c d k v w ha hb
  rw [takes_rd, readAs_boots] at h
  exact h
set_option maxRecDepth 100000 in
set_option maxHeartbeats 40000000 in
theorem state_any (A : Option Addr) (c : Nat) (l : List RowD) (w : World) (hl : Lst RowE w (fun _ => False) A c l) (hn : l.length ≤ 900) :
    Calls Tryz.prog 54 #[.slice A l.length c] w (RetS w (progState l)) := by
  have HL := Lib.hid hl
  have h1 := hl.le
  have h2 := hl.max
  clear hl
  generalize hr : progState l = res
  have HR := Lib.hid hr
  clear hr
  unfold progState at HR
  have HB0 := Lib.hid (below_alloc (Below.refl w.heap.size w) (.map #[] 0))
  have HM0 : Hid (GMap (w.alloc (.map #[] 0)) w.heap.size []) := Lib.hid ⟨World.ownsMap_made w _ _ _, by simp⟩
  generalize hm : l.length = n at *
  have HN := Lib.hid hm
  clear hm
  have hmk : (Instr.makeMap 116 none).run Tryz.prog w = .ok (.map (some w.heap.size)) (w.alloc (.map #[] 0)) := rfl
  go_enter Tryz.func54, Tryz.ntmps54
  go_wp2_with fail
  go_loopg [21] n (fun gk i wr => ∃ (k : Nat) (rs : List GRow), k ≤ n ∧ gk = n - k ∧ i = .int .i64 (k : Int) ∧ Hid (GMap wr w.heap.size rs) ∧ Hid (GOf w (l.take k) rs) ∧ Below w.heap.size w wr)
  case atStart => exact ⟨0, [], by omega, rfl, rfl, HM0, GOf.nil w, HB0.out⟩
  case round =>
    obtain ⟨k, rs, hk, rfl, rfl, HG, HO, hb⟩ := hrel
    have HW := Lib.hid hb
    clear hb
    by_cases hlt : k < n
    · have i1 : (k : Int) < (n : Int) := by omega
      have i0 : (0 : Int) ≤ (k : Int) := by omega
      obtain ⟨bk, off, A2, a2, B2, b2, rfl, hbk, c0, c1, s1, s2⟩ := HL.out.row k _ (getD_get zR (by rw [HN.out]; exact hlt))
      have HTK : Hid (l.take (k + 1) = l.take k ++ [l.getD k zR]) := Lib.hid (by
        have hk : k < l.length := by rw [HN.out]; exact hlt
        rw [List.take_succ_eq_append_getElem hk]; simp [hk])
      obtain ⟨⟨xk, xv⟩, hx⟩ : ∃ y, l.getD k zR = y := ⟨_, rfl⟩
      rw [hx] at c0 c1 s1 s2 HTK
      dsimp only at c0 c1 s1 s2
      have S1 := Lib.hid s1.1
      have StW2 := Lib.hid s2.1
      have y0 : wr.cell? ⟨bk, off + k * 2, none⟩ = some (.slice A2 xk.length a2) := (HW.out.cell (p := ⟨bk, _, none⟩) hbk).trans c0
      have y1 : wr.cell? ⟨bk, off + k * 2 + 1, none⟩ = some (.slice B2 xv.length b2) := (HW.out.cell (p := ⟨bk, _, none⟩) hbk).trans c1
      have HX := Lib.hid hx
      clear c0 c1 s1 s2 hx hbk
      have hrl : rs.length ≤ 1000 := by
        have := HO.out.1
        rw [List.length_take, HN.out] at this
        omega
      have HRL := Lib.hid hrl
      have W1 := Lib.hid (below_alloc (Below.refl wr.heap.size wr) (.cells #[Value.slice A2 xk.length a2, .slice B2 xv.length b2] 47))
      have T := Lib.hid (take_any w.heap.size rs A2 B2 a2 b2 xv.length xk (wr.alloc (.cells #[Value.slice A2 xk.length a2, .slice B2 xv.length b2] 47)) (HG.out.keep W1.out) (S1.out.below (below_step HW.out W1.out)) hrl)
      clear hrl
      go_wp2_with fail
      refine T.out.mono ?_
      rintro e w3 ht
      rcases ht with ⟨hh, rfl, g3, k3⟩ | ⟨hh, rfl, g3, k3⟩
      · have W3 := Lib.hid (below_only (below_step HW.out W1.out) k3 (fun i hi => by omega))
        have HH := Lib.hid hh
        clear g3 k3 hh
        go_wp2_with fail
        have HE : res = ([], [], 0, 114) := by
          rw [← HR.out, if_neg]
          intro hnd
          have hmem := hasG_true.1 HH.out
          rw [HO.out.fst] at hmem
          rw [← List.take_append_drop (k + 1) l, HTK.out, List.map_append, List.map_append] at hnd
          have h3 := (List.nodup_append.1 (List.nodup_append.1 hnd).1).2.2
          exact h3 _ hmem _ (by simp) rfl
        exact bodyPost_ret (v := .tuple #[.slice none 0 0, .slice none 0 0, .int .i64 0, .int .i64 114]) (by simp [results, Tryz.results54, go_sem]) rfl ⟨none, 0, none, 0, by rw [HE]; rfl, by rw [HE]; exact Lst.nil _ _, by rw [HE]; exact Lst.nil _ _, W3.out⟩
      · have W3 := Lib.hid (below_only (below_step HW.out W1.out) k3 (fun i hi => by omega))
        have G3 := Lib.hid g3
        clear g3 k3 hh
        go_wp2_with fail
        go_roundg (n - (k + 1))
        case measure => omega
        case rel => exact ⟨k + 1, rs ++ [(xk, .slice B2 xv.length b2)], by omega, rfl, by go_num, G3, by rw [HTK.out]; exact HO.out.snoc (x := (xk, xv)) StW2.out, W3.out⟩
    · obtain rfl : k = n := by omega
      have i1 : ¬ (k : Int) < (k : Int) := by omega
      have htk : l.take k = l := List.take_of_length_le (by rw [HN.out]; omega)
      have HO2 : Hid (GOf w l rs) := by rw [← htk]; exact HO
      clear htk HO
      have hrl : rs.length ≤ 1000 := by
        have := HO2.out.1
        rw [HN.out] at this
        omega
      have KY := Lib.hid (keys_any w.heap.size rs wr HG.out hrl)
      have HKS : Hid (keysOf rs = keysL l) := by rw [Hid]; unfold keysOf keysL; rw [HO2.out.fst]
      rw [HKS.out] at KY
      have HKM : Hid (∀ x, x ∈ keysL l → x ∈ l.map Prod.fst) := Lib.hid (fun x hx => (List.mergeSort_perm _ _).mem_iff.1 hx)
      have HKL : Hid ((keysL l).length = k) := Lib.hid (by unfold keysL; simp [HN.out])
      clear hrl HKS
      unfold foldK at HR
      have HFS := Lib.hid (foldK_step l (keysL l) (some ([], [], 0)))
      have HFX := Lib.hid (foldK_stop l (keysL l) (some ([], [], 0)))
      have hnd : (l.map Prod.fst).Nodup := by rw [← HO2.out.fst]; exact HG.out.2
      rw [if_pos hnd] at HR
      clear hnd
      generalize keysL l = ks at *
      go_wp2_with fail
      refine KY.out.mono ?_
      rintro e w2 ⟨KA, kc, rfl, hkl, hb2⟩
      have HKK := Lib.hid hkl
      have W2 := Lib.hid (below_step HW.out hb2)
      have G2 := Lib.hid (HG.out.keep hb2)
      have hkc := hkl.le
      have hkc2 := hkl.max
      have HS2 := Lib.hid (StW2.start w2)
      clear hkl hb2 KY HG HM0 HB0
      generalize hm : ks.length = m at *
      have HM := Lib.hid hm
      clear hm
      go_wp2_with fail
      go_loopg [33, 9, 10, 11] m (fun gk i s9 s10 s11 wr => ∃ (j : Nat) (ps : List PeerD) (ls : List LaneD) (bo : Int), j ≤ m ∧ gk = m - j ∧ i = .int .i64 (j : Int) ∧ s11 = .int .i64 bo ∧ Hid ((ks.take j).foldl (stepK l) (some ([], [], 0)) = some (ps, ls, bo)) ∧ Hid (ps.length ≤ j ∧ ls.length ≤ j) ∧ Hid (StW2 w2 wr s9 s10 ps ls))
      case atStart => exact ⟨0, [], [], 0, by omega, rfl, rfl, rfl, rfl, ⟨by simp, by simp⟩, HS2.out⟩
      case round =>
        clear HS2
        obtain ⟨j, ps, ls, bo, hj, rfl, rfl, rfl, HF, HLn, HS⟩ := hrel
        obtain ⟨A1, a1, rfl⟩ := HS.out.p.slice
        obtain ⟨B1, b1, rfl⟩ := HS.out.l.slice
        by_cases hjt : j < m
        · have j1 : (j : Int) < (m : Int) := by omega
          have j0 : (0 : Int) ≤ (j : Int) := by omega
          have HST := Lib.hid (HFS.out j hjt)
          rw [HF.out] at HST
          have hkk : ks[j]? = some (ks.getD j []) := getD_get [] (by rw [HM.out]; exact hjt)
          obtain ⟨bk, off, raw, rfl, hbk, -, hc, hraw⟩ := HKK.out.at_ j _ hkk
          have hmem := HKM.out _ (List.mem_of_getElem? hkk)
          obtain ⟨kk, hx⟩ : ∃ y, ks.getD j [] = y := ⟨_, rfl⟩
          rw [hx] at hmem hraw HST
          cases hraw
          have y0 : wr.cell? ⟨bk, off + j, none⟩ = some (.string ⟨kk.toArray⟩) := by
            have := (HS.out.b.cell (p := ⟨bk, off + j * 1 + 0, none⟩) hbk).trans (hc 0 (by decide))
            simpa [encStr] using this
          obtain ⟨VB, vb, hlook, hvb⟩ := find_pair kk l rs HO2.out hmem
          have hkl : kk.length ≤ 140737488355328 := by
            obtain ⟨x, hxm, rfl⟩ := List.mem_map.1 hmem
            obtain ⟨i, hi, rfl⟩ := List.mem_iff_getElem.1 hxm
            obtain ⟨_, _, _, _, _, _, _, _, _, _, s1, _⟩ := HL.out.row i _ (List.getElem?_eq_getElem hi)
            exact s1.1.max
          have hkm : kk.length ≤ maxLen := by simp only [maxLen]; omega
          have HKM2 := Lib.hid hkm
          have W3 := Lib.hid (below_step W2.out HS.out.b)
          obtain ⟨cap, w3, hcv, hs3, hb3⟩ := bytes_of wr kk hkl
          have bw3 := Lib.hid hb3
          rw [stepK_some] at HST
          generalize valOf l kk = vv at *
          have S3 := Lib.hid hs3
          have HS3 := Lib.hid (HS.out.step hb3)
          have G3 := Lib.hid ((G2.out.keep HS.out.b).keep hb3)
          have V3 := Lib.hid (hvb.below (below_step W3.out hb3))
          have HLK := Lib.hid hlook
          clear hs3 hb3 hlook hvb hkl hkm hmem hx hkk hc
          rcases hkc : kk with _ | ⟨c0, t⟩
          · have hnil : (kk == []) = true := by simp [hkc]
            have HE : Hid (res = ([], [], 0, 114)) := by
              rw [Hid, ← HR.out, HFX.out (j + 1) (by rw [HST.out, hkc]; rfl)]
              rfl
            clear hkc
            go_wp2_with (first
              | (at_lookup; refine look_v rfl _ _ rfl rfl G3.out kk rfl HKM2.out ?_; rw [HLK.out])
              | go_in)
            exact bodyPost_ret (v := .tuple #[.slice none 0 0, .slice none 0 0, .int .i64 0, .int .i64 114]) (by simp [results, Tryz.results54, go_sem]) rfl ⟨none, 0, none, 0, by rw [HE.out]; rfl, by rw [HE.out]; exact Lst.nil _ _, by rw [HE.out]; exact Lst.nil _ _, (below_step W3.out (below_step bw3.out (below_alloc (Below.refl _ _) _)))⟩
          · have hnil : (kk == []) = false := by simp [hkc]
            have hix : ∀ W : World, (Instr.index 9 (.string ⟨kk.toArray⟩) (.int .i64 0)).run Tryz.prog W = .ok (.int .u8 (c0.toNat : Int)) W := fun W => by
              rw [run_index_string W _ _ _ _ u_str, dif_pos (by rw [hkc]; simp [ByteArray.size])]
              simp only [hkc]
              rfl
            have HKC := Lib.hid hkc
            clear hkc
            rw [HKC.out] at HST
            unfold stepO at HST
            dsimp only at HST
            rw [← HKC.out] at HST
            have HR3 := Lib.hid (below_alloc (Below.refl w3.heap.size w3) (.cells #[Value.slice (some ⟨wr.heap.size, 0, none⟩) kk.length cap, .slice VB vv.length vb] 47))
            have HB3 := Lib.hid (blk_new w3 (.cells #[Value.slice (some ⟨wr.heap.size, 0, none⟩) kk.length cap, .slice VB vv.length vb] 47))
            by_cases h80 : c0 = 80
            · subst h80
              rw [if_pos rfl] at HST
              have HX := Lib.hid (below_alloc HR3.out (.cells #[Value.int .i64 0, .slice none 0 0, .slice none 0 0] 36))
              have HSZ : Hid (((w3.alloc (.cells #[Value.slice (some ⟨wr.heap.size, 0, none⟩) kk.length cap, .slice VB vv.length vb] 47)).alloc (.cells #[Value.int .i64 0, .slice none 0 0, .slice none 0 0] 36)).heap.size = w3.heap.size + 2) := by rw [Hid]; simp
              have HZ := Lib.hid (blk_new2 w3 (.cells #[Value.slice (some ⟨wr.heap.size, 0, none⟩) kk.length cap, .slice VB vv.length vb] 47) (.cells #[Value.int .i64 0, .slice none 0 0, .slice none 0 0] 36))
              have P := Lib.hid (getPeer_any _ VB cap vb kk vv _ (S3.out.below HX.out) (V3.out.below HX.out))
              generalize peerGet kk vv = pg at *
              obtain ⟨pd, pc⟩ := pg
              dsimp only at HST
              go_wp2_with (first
                | (at_lookup; refine look_v rfl _ _ rfl rfl G3.out kk rfl HKM2.out ?_; rw [HLK.out]))
              refine P.out.mono ?_
              rintro e w5 ⟨A5, a5, B5, b5, rfl, s5, p5, hb5, n5, m5⟩
              unfold peerV
              dsimp only at s5 p5 n5 m5 ⊢
              have HB5 := Lib.hid (below_step HX.out hb5)
              have hx0 : PBox w5 (w3.heap.size + 1) 0 none 0 0 none 0 0 := ⟨(hb5.block _ (by rw [HSZ.out]; omega)).trans HZ.out⟩
              have HF5 := Lib.hid (HS3.out.boxP HB5.out (g := w3.heap.size + 1) (by omega) hx0 s5 p5 (n5.back (by rw [HSZ.out]; omega)) (m5.back (by rw [HSZ.out]; omega)))
              obtain ⟨r0, r1, r2, z0, z1, z2⟩ := hx0.cells
              have hf := HF5.out.2.1.cells
              unfold fill3 at hf HF5
              obtain ⟨f0, f1, f2, -, -, -⟩ := hf
              have BX5 := Lib.hid ((hb5.block _ (by rw [HSZ.out]; omega)).trans (blk_alloc HB3.out (.cells #[Value.int .i64 0, .slice none 0 0, .slice none 0 0] 36)))
              have S6 := Lib.hid (HF5.out.1.step (below_alloc (Below.refl _ _) (.cells #[Value.int .i64 pd.link, .slice A5 pd.key.length a5, .slice B5 pd.ps.length b5] 36)))
              have R6 := Lib.hid (PeerE.below HF5.out.2.2.1 (below_alloc (Below.refl _ _) (.cells #[Value.int .i64 pd.link, .slice A5 pd.key.length a5, .slice B5 pd.ps.length b5] 36)))
              have x6 := blk_new (((w5.setCell ⟨w3.heap.size + 1, 0, none⟩ (.int .i64 pd.link)).setCell ⟨w3.heap.size + 1, 1, none⟩ (.slice A5 pd.key.length a5)).setCell ⟨w3.heap.size + 1, 2, none⟩ (.slice B5 pd.ps.length b5)) (.cells #[Value.int .i64 pd.link, .slice A5 pd.key.length a5, .slice B5 pd.ps.length b5] 36)
              rw [HF5.out.2.2.2] at x6
              have X6 := Lib.hid x6
              clear x6
              clear hb5 hx0 s5 p5 n5 m5
              by_cases hp : pc = 0
              · subst hp
                rw [if_pos rfl] at HST
                go_wp2_with (at_builtin; refine push (E := PeerE) 36 22 _ 56 rfl (.tmp 55) (.tmp 57) rfl Tryz.underlying22 info_peer rfl (by decide) (by decide) (by decide) (.slice A1 ps.length a1) ps pd [Value.int .i64 pd.link, .slice A5 pd.key.length a5, .slice B5 pd.ps.length b5] w5.heap.size 1 rfl rfl S6.out.p X6.out R6.out S6.out.b.size (by have := HLn.out.1; have := HKL.out; omega) ?_ (fun _ h => S6.out.l.lt h); intro A6 c6 w6 o6 k6 n6; have S7 := Lib.hid (S6.out.pushP o6 k6 n6); clear o6 k6 n6)
                go_roundg (m - (j + 1))
                case measure => omega
                case rel => exact ⟨j + 1, ps ++ [pd], ls, bo, by omega, rfl, by go_num, rfl, HST, ⟨by have := HLn.out.1; simp; omega, by have := HLn.out.2; omega⟩, by simpa using S7⟩
              · have hp2 : (pc != 0) = true := by simpa using hp
                rw [if_neg hp] at HST
                have HE : Hid (res = ([], [], 0, 114)) := by
                  rw [Hid, ← HR.out, HFX.out (j + 1) HST.out]
                  rfl
                go_wp2_with (at_builtin; refine push (E := PeerE) 36 22 _ 56 rfl (.tmp 55) (.tmp 57) rfl Tryz.underlying22 info_peer rfl (by decide) (by decide) (by decide) (.slice A1 ps.length a1) ps pd [Value.int .i64 pd.link, .slice A5 pd.key.length a5, .slice B5 pd.ps.length b5] w5.heap.size 1 rfl rfl S6.out.p X6.out R6.out S6.out.b.size (by have := HLn.out.1; have := HKL.out; omega) ?_ (fun _ h => S6.out.l.lt h); intro A6 c6 w6 o6 k6 n6; have S7 := Lib.hid (S6.out.pushP o6 k6 n6); clear o6 k6 n6)
                exact bodyPost_ret (v := .tuple #[.slice none 0 0, .slice none 0 0, .int .i64 0, .int .i64 114]) (by simp [results, Tryz.results54, go_sem]) rfl ⟨none, 0, none, 0, by rw [HE.out]; rfl, by rw [HE.out]; exact Lst.nil _ _, by rw [HE.out]; exact Lst.nil _ _, below_step W2.out S7.out.b⟩
            · rw [if_neg h80] at HST
              have e80 : ¬ (c0.toNat : Int) = 80 := fun e => h80 (UInt8.toNat_inj.1 (by simpa using Int.ofNat_inj.1 e))
              have f80 : ((c0.toNat : Int) == 80) = false := by simpa using e80
              by_cases h76 : c0 = 76
              · subst h76
                rw [if_pos rfl] at HST
                have HX := Lib.hid (below_alloc HR3.out (.cells #[Value.slice none 0 0, .int .i64 0, .int .i64 0, .int .i64 0, .int .u64 0, .int .u64 0, .int .i64 0, .int .i64 0] 43))
                have HSZ : Hid (((w3.alloc (.cells #[Value.slice (some ⟨wr.heap.size, 0, none⟩) kk.length cap, .slice VB vv.length vb] 47)).alloc (.cells #[Value.slice none 0 0, .int .i64 0, .int .i64 0, .int .i64 0, .int .u64 0, .int .u64 0, .int .i64 0, .int .i64 0] 43)).heap.size = w3.heap.size + 2) := by rw [Hid]; simp
                have HZ := Lib.hid (blk_new2 w3 (.cells #[Value.slice (some ⟨wr.heap.size, 0, none⟩) kk.length cap, .slice VB vv.length vb] 47) (.cells #[Value.slice none 0 0, .int .i64 0, .int .i64 0, .int .i64 0, .int .u64 0, .int .u64 0, .int .i64 0, .int .i64 0] 43))
                have P := Lib.hid (getLane_any _ VB cap vb kk vv _ (S3.out.below HX.out) (V3.out.below HX.out))
                have LB := Lib.hid (laneGet_b kk vv)
                generalize laneGet kk vv = pg at *
                obtain ⟨ld, pc⟩ := pg
                dsimp only at HST LB
                go_wp2_with (first
                  | (at_lookup; refine look_v rfl _ _ rfl rfl G3.out kk rfl HKM2.out ?_; rw [HLK.out]))
                refine P.out.mono ?_
                rintro e w5 ⟨A5, a5, rfl, s5, hb5, n5⟩
                unfold laneV
                dsimp only at s5 n5 ⊢
                have HB5 := Lib.hid (below_step HX.out hb5)
                have hx0 : w5.heap[w3.heap.size + 1]? = some (.cells (lnC none 0 0 0 0 0 0 0 0 0) 43 (0, 0)) := (hb5.block _ (by rw [HSZ.out]; omega)).trans HZ.out
                have HF5 := Lib.hid (HS3.out.boxL HB5.out (g := w3.heap.size + 1) (by omega) hx0 s5 LB.out (n5.back (by rw [HSZ.out]; omega)))
                obtain ⟨r0, r1, r2, r3, r4, r5, r6, r7, z0, z1, z2, z3, z4, z5, z6, z7⟩ := zero_cells hx0
                have JJ := Lib.hid (lane_cells HF5.out.2.1)
                unfold fill8 at JJ HF5
                have S6 := Lib.hid (HF5.out.1.step (below_alloc (Below.refl _ _) (.cells #[Value.slice A5 ld.key.length a5, .int .i64 ld.side, .int .i64 ld.cur, .int .i64 ld.next, .int .u64 (ld.sc : Int), .int .u64 (ld.ceil : Int), .int .i64 ld.sec, .int .i64 ld.nano] 43)))
                have R6 := Lib.hid (LaneE.below HF5.out.2.2.1 (below_alloc (Below.refl _ _) (.cells #[Value.slice A5 ld.key.length a5, .int .i64 ld.side, .int .i64 ld.cur, .int .i64 ld.next, .int .u64 (ld.sc : Int), .int .u64 (ld.ceil : Int), .int .i64 ld.sec, .int .i64 ld.nano] 43)))
                have x6 := blk_new ((((((((w5.setCell ⟨w3.heap.size + 1, 0, none⟩ (.slice A5 ld.key.length a5)).setCell ⟨w3.heap.size + 1, 1, none⟩ (.int .i64 ld.side)).setCell ⟨w3.heap.size + 1, 2, none⟩ (.int .i64 ld.cur)).setCell ⟨w3.heap.size + 1, 3, none⟩ (.int .i64 ld.next)).setCell ⟨w3.heap.size + 1, 4, none⟩ (.int .u64 (ld.sc : Int))).setCell ⟨w3.heap.size + 1, 5, none⟩ (.int .u64 (ld.ceil : Int))).setCell ⟨w3.heap.size + 1, 6, none⟩ (.int .i64 ld.sec)).setCell ⟨w3.heap.size + 1, 7, none⟩ (.int .i64 ld.nano)) (.cells #[Value.slice A5 ld.key.length a5, .int .i64 ld.side, .int .i64 ld.cur, .int .i64 ld.next, .int .u64 (ld.sc : Int), .int .u64 (ld.ceil : Int), .int .i64 ld.sec, .int .i64 ld.nano] 43)
                rw [HF5.out.2.2.2] at x6
                have X6 := Lib.hid x6
                clear x6
                clear hb5 hx0 s5 n5
                by_cases hp : pc = 0
                · subst hp
                  rw [if_pos rfl] at HST
                  go_wp2_with (at_builtin; refine push (E := LaneE) 43 23 _ 80 rfl (.tmp 68) (.tmp 70) rfl Tryz.underlying23 info_lane rfl (by decide) (by decide) (by decide) (.slice B1 ls.length b1) ls ld [Value.slice A5 ld.key.length a5, .int .i64 ld.side, .int .i64 ld.cur, .int .i64 ld.next, .int .u64 (ld.sc : Int), .int .u64 (ld.ceil : Int), .int .i64 ld.sec, .int .i64 ld.nano] w5.heap.size 1 rfl rfl S6.out.l X6.out R6.out S6.out.b.size (by have := HLn.out.2; have := HKL.out; omega) ?_ (fun _ h => S6.out.p.lt h); intro A6 c6 w6 o6 k6 n6; have S7 := Lib.hid (S6.out.pushL o6 k6 n6); clear o6 k6 n6)
                  go_roundg (m - (j + 1))
                  case measure => omega
                  case rel => exact ⟨j + 1, ps, ls ++ [ld], bo, by omega, rfl, by go_num, rfl, HST, ⟨by have := HLn.out.1; omega, by have := HLn.out.2; simp; omega⟩, by simpa using S7⟩
                · have hp2 : (pc != 0) = true := by simpa using hp
                  rw [if_neg hp] at HST
                  have HE : Hid (res = ([], [], 0, 114)) := by
                    rw [Hid, ← HR.out, HFX.out (j + 1) HST.out]
                    rfl
                  go_wp2_with (at_builtin; refine push (E := LaneE) 43 23 _ 80 rfl (.tmp 68) (.tmp 70) rfl Tryz.underlying23 info_lane rfl (by decide) (by decide) (by decide) (.slice B1 ls.length b1) ls ld [Value.slice A5 ld.key.length a5, .int .i64 ld.side, .int .i64 ld.cur, .int .i64 ld.next, .int .u64 (ld.sc : Int), .int .u64 (ld.ceil : Int), .int .i64 ld.sec, .int .i64 ld.nano] w5.heap.size 1 rfl rfl S6.out.l X6.out R6.out S6.out.b.size (by have := HLn.out.2; have := HKL.out; omega) ?_ (fun _ h => S6.out.p.lt h); intro A6 c6 w6 o6 k6 n6; have S7 := Lib.hid (S6.out.pushL o6 k6 n6); clear o6 k6 n6)
                  exact bodyPost_ret (v := .tuple #[.slice none 0 0, .slice none 0 0, .int .i64 0, .int .i64 114]) (by simp [results, Tryz.results54, go_sem]) rfl ⟨none, 0, none, 0, by rw [HE.out]; rfl, by rw [HE.out]; exact Lst.nil _ _, by rw [HE.out]; exact Lst.nil _ _, below_step W2.out S7.out.b⟩
              · rw [if_neg h76] at HST
                have e76 : ¬ (c0.toNat : Int) = 76 := fun e => h76 (UInt8.toNat_inj.1 (by simpa using Int.ofNat_inj.1 e))
                have f76 : ((c0.toNat : Int) == 76) = false := by simpa using e76
                by_cases h66 : c0 = 66
                · subst h66
                  rw [if_pos rfl] at HST
                  have P := Lib.hid (getBoots2 _ VB cap vb kk vv _ (S3.out.below HR3.out) (V3.out.below HR3.out))
                  generalize bootsGet kk vv = pg at *
                  obtain ⟨bn, pc⟩ := pg
                  dsimp only at HST P
                  go_wp2_with (first
                    | (at_lookup; refine look_v rfl _ _ rfl rfl G3.out kk rfl HKM2.out ?_; rw [HLK.out]))
                  refine P.out.mono ?_
                  rintro e w5 ⟨rfl, hb5⟩
                  have S7 := Lib.hid (HS3.out.step (below_step HR3.out hb5))
                  clear hb5
                  by_cases hp : pc = 0
                  · subst hp
                    rw [if_pos rfl] at HST
                    go_wp2_with fail
                    go_roundg (m - (j + 1))
                    case measure => omega
                    case rel => exact ⟨j + 1, ps, ls, bn, by omega, rfl, by go_num, rfl, HST, ⟨by have := HLn.out.1; omega, by have := HLn.out.2; omega⟩, S7⟩
                  · have hp2 : (pc != 0) = true := by simpa using hp
                    rw [if_neg hp] at HST
                    have HE : Hid (res = ([], [], 0, 114)) := by
                      rw [Hid, ← HR.out, HFX.out (j + 1) HST.out]
                      rfl
                    go_wp2_with fail
                    exact bodyPost_ret (v := .tuple #[.slice none 0 0, .slice none 0 0, .int .i64 0, .int .i64 114]) (by simp [results, Tryz.results54, go_sem]) rfl ⟨none, 0, none, 0, by rw [HE.out]; rfl, by rw [HE.out]; exact Lst.nil _ _, by rw [HE.out]; exact Lst.nil _ _, below_step W2.out S7.out.b⟩
                · rw [if_neg h66] at HST
                  have e66 : ¬ (c0.toNat : Int) = 66 := fun e => h66 (UInt8.toNat_inj.1 (by simpa using Int.ofNat_inj.1 e))
                  have f66 : ((c0.toNat : Int) == 66) = false := by simpa using e66
                  have HE : Hid (res = ([], [], 0, 114)) := by
                    rw [Hid, ← HR.out, HFX.out (j + 1) HST.out]
                    rfl
                  go_wp2_with (first
                    | (at_lookup; refine look_v rfl _ _ rfl rfl G3.out kk rfl HKM2.out ?_; rw [HLK.out]))
                  exact bodyPost_ret (v := .tuple #[.slice none 0 0, .slice none 0 0, .int .i64 0, .int .i64 114]) (by simp [results, Tryz.results54, go_sem]) rfl ⟨none, 0, none, 0, by rw [HE.out]; rfl, by rw [HE.out]; exact Lst.nil _ _, by rw [HE.out]; exact Lst.nil _ _, (below_step W3.out (below_step bw3.out (below_alloc (Below.refl _ _) _)))⟩
        · obtain rfl : j = m := by omega
          have j1 : ¬ (j : Int) < (j : Int) := by omega
          have htk : ks.take j = ks := List.take_of_length_le (by rw [HM.out]; omega)
          have HF2 := HF.out
          rw [htk] at HF2
          have HR2 := HR.out
          rw [HF2] at HR2
          unfold ansK at HR2
          dsimp only at HR2
          obtain ⟨A7, a7, e7, l7⟩ := HS.out.p.lst (fun i h h2 => HS.out.apart i h2 h)
          obtain ⟨B7, b7, e8, l8⟩ := HS.out.l.lst (fun i h h2 => HS.out.apart i h h2)
          cases e7
          cases e8
          have V := Lib.hid (sound_any A1 B1 a1 b1 ps ls wr l7.free l8.free)
          have P7 := Lib.hid l7.free
          have Q7 := Lib.hid l8.free
          have W7 := Lib.hid (below_step W2.out HS.out.b)
          generalize wholeB ps ls = wb at *
          have HRR := Lib.hid HR2
          clear htk HF2 HR2 l7 l8
          cases wb
          · have HE : Hid (res = ([], [], 0, 114)) := by rw [Hid, ← HRR.out]; rfl
            go_wp2_with fail
            refine V.out.mono ?_
            rintro e w5 ⟨rfl, hb5⟩
            have W8 := Lib.hid (below_step W7.out hb5)
            clear hb5
            go_wp2_with fail
            exact bodyPost_ret (v := .tuple #[.slice none 0 0, .slice none 0 0, .int .i64 0, .int .i64 114]) (by simp [results, Tryz.results54, go_sem]) rfl ⟨none, 0, none, 0, by rw [HE.out]; rfl, by rw [HE.out]; exact Lst.nil _ _, by rw [HE.out]; exact Lst.nil _ _, W8.out⟩
          · have HE : Hid (res = (ps, ls, bo, 0)) := by rw [Hid, ← HRR.out]; rfl
            go_wp2_with fail
            refine V.out.mono ?_
            rintro e w5 ⟨rfl, hb5⟩
            have W8 := Lib.hid (below_step W7.out hb5)
            have P8 := Lib.hid (P7.out.below hb5)
            have Q8 := Lib.hid (Q7.out.below hb5)
            clear hb5
            go_wp2_with fail
            exact bodyPost_ret (v := .tuple #[.slice A1 ps.length a1, .slice B1 ls.length b1, .int .i64 bo, .int .i64 0]) (by simp [results, Tryz.results54, go_sem]) rfl ⟨A1, a1, B1, b1, by rw [HE.out], by rw [HE.out]; exact P8.out, by rw [HE.out]; exact Q8.out, W8.out⟩
end Go.Proofs.YtafdhccdjbfepaaGreat.Lst
/- The walk of rows.state. -/
namespace Go.Proofs.YtafdhccdjbfepaaGreat.Lst
open Go.RowKit Go.Proofs.YtafdhccdjbfepaaGreat.K Go.Proofs.YtafdhccdjbfepaaGreat.Help Go.Proofs.YtafdhccdjbfepaaGreat.Pfx Go.Proofs.YtafdhccdjbfepaaGreat.Peer
set_option linter.unusedVariables false

set_option maxRecDepth 100000 in
set_option maxHeartbeats 8000000 in
theorem mapState_any (A B : Option Addr) (a b : Nat) (ps : List PeerD) (ls : List LaneD) (w : World) (hp : Lst PeerE w (fun _ => False) A a ps) (hq : Lst LaneE w (fun _ => False) B b ls) (hn : ps.length ≤ 400) (hm : ls.length ≤ 400) :
    Calls Tryz.prog 69 #[.slice A ps.length a, .slice B ls.length b] w (RetM w (rowsPL ps ls) (goodPL ps ls && !twiceB (rowsPL ps ls))) := by
  have HP := Lib.hid hp
  have HQ := Lib.hid hq
  have h1 := hp.le
  have h2 := hp.max
  have h3 := hq.le
  have h4 := hq.max
  clear hp hq
  have HB0 := Lib.hid (below_alloc (Below.refl w.heap.size w) (.map #[] 0))
  have HM0 : Hid (GMap (w.alloc (.map #[] 0)) w.heap.size []) := Lib.hid ⟨World.ownsMap_made w _ _ _, by simp⟩
  generalize hr : (goodPL ps ls && !twiceB (rowsPL ps ls)) = res
  have HR := Lib.hid hr
  clear hr
  have hgd := fun h : goodPL ps ls = true => h
  clear hgd
  generalize hnn : ps.length = n at *
  have HN := Lib.hid hnn
  generalize hmm : ls.length = m at *
  have HM := Lib.hid hmm
  clear hnn hmm
  have hmk : (Instr.makeMap 116 none).run Tryz.prog w = .ok (.map (some w.heap.size)) (w.alloc (.map #[] 0)) := rfl
  go_enter Tryz.func69, Tryz.ntmps69
  go_wp2_with fail
  go_loopg [18] n (fun gk i wr => ∃ (k : Nat) (rs : List GRow), k ≤ n ∧ gk = n - k ∧ i = .int .i64 (k : Int) ∧ Hid (GMap wr w.heap.size rs) ∧ Hid (GOf wr ((rowsPL ps ls).take k) rs) ∧ Hid ((ps.take k).all okP = true) ∧ Hid (rs.length = k) ∧ Below w.heap.size w wr)
  case atStart => exact ⟨0, [], by omega, rfl, rfl, HM0, GOf.nil _, rfl, rfl, HB0.out⟩
  case round =>
    clear HB0 HM0 hmk
    obtain ⟨k, rs, hk, rfl, rfl, HG, HO, HA, HRL, hb⟩ := hrel
    have HW := Lib.hid hb
    clear hb
    by_cases hlt : k < n
    · have i1 : (k : Int) < (n : Int) := by omega
      have i0 : (0 : Int) ≤ (k : Int) := by omega
      have HT := Lib.hid (take_row (rowsPL ps ls) (k) (by rw [rowsPL_len, HN.out]; omega))
      have HGR := Lib.hid (rowsPL_p (ls := ls) (k := k) (by rw [HN.out]; exact hlt))
      have HBD := Lib.hid (bad_p (ps := ps) (ls := ls) (k := k) (by rw [HN.out]; exact hlt))
      have HDU := Lib.hid (fun h => dup_at (l := rowsPL ps ls) (i := k) (by rw [rowsPL_len, HN.out]; omega) h)
      obtain ⟨bk, off, A1, a1, B1, b1, rfl, hbk, c0, c1, c2, s1, s2⟩ := HP.out.peer k _ (getD_get zeroPeer (by rw [HN.out]; exact hlt))
      have HTA := Lib.hid (take_all okP zeroPeer ps k (by rw [HN.out]; exact hlt))
      rw [HA.out] at HTA
      obtain ⟨x, hx⟩ : ∃ y, ps.getD k zeroPeer = y := ⟨_, rfl⟩
      rw [hx] at c0 c1 c2 s1 s2 HGR HBD HTA
      rw [show rowP x = ((putPeer x).1, (putPeer x).2.1) from rfl] at HGR
      rw [show okP x = ((putPeer x).2.2 == 0) from rfl] at HBD HTA
      rw [HGR.out] at HT HDU
      have y0 : wr.cell? ⟨bk, off + k * 3, none⟩ = some (.int .i64 x.link) := (HW.out.cell (p := ⟨bk, _, none⟩) hbk).trans c0
      have y1 : wr.cell? ⟨bk, off + k * 3 + 1, none⟩ = some (.slice A1 x.key.length a1) := (HW.out.cell (p := ⟨bk, _, none⟩) hbk).trans c1
      have y2 : wr.cell? ⟨bk, off + k * 3 + 2, none⟩ = some (.slice B1 x.ps.length b1) := (HW.out.cell (p := ⟨bk, _, none⟩) hbk).trans c2
      have HBX := Lib.hid (below_alloc (Below.refl wr.heap.size wr) (.cells #[.int .i64 x.link, .slice A1 x.key.length a1, .slice B1 x.ps.length b1] 36))
      have q0 := blk_new wr (.cells #[.int .i64 x.link, .slice A1 x.key.length a1, .slice B1 x.ps.length b1] 36)
      have bb0 := (blk_cell q0 0).trans (b := some (Value.int .i64 x.link)) rfl
      have bb1 := (blk_cell q0 1).trans (b := some (Value.slice A1 x.key.length a1)) rfl
      have bb2 := (blk_cell q0 2).trans (b := some (Value.slice B1 x.ps.length b1)) rfl
      have P := Lib.hid (putPeer_any A1 B1 a1 b1 x (wr.alloc (.cells #[.int .i64 x.link, .slice A1 x.key.length a1, .slice B1 x.ps.length b1] 36)) ((s1.1.below HW.out).below (below_alloc (Below.refl _ _) (.cells #[.int .i64 x.link, .slice A1 x.key.length a1, .slice B1 x.ps.length b1] 36))) ((s2.1.below HW.out).below (below_alloc (Below.refl _ _) (.cells #[.int .i64 x.link, .slice A1 x.key.length a1, .slice B1 x.ps.length b1] 36))))
      unfold peerV at P
      generalize hpp : putPeer x = pp at HT HGR HBD HDU HTA P
      obtain ⟨pk, pv, pc⟩ := pp
      dsimp only at HT HGR HBD HDU HTA P
      clear c0 c1 c2 s1 s2 hx hpp q0 HGR
      go_wp2_with fail
      refine P.out.mono ?_
      rintro e w2 ⟨v1, v2, rfl, o1, o2, hb2⟩
      obtain ⟨A2, a2, rfl, t1⟩ := o1.bs
      obtain ⟨A3, a3, rfl, t2⟩ := o2.bs
      have hq1 := below_alloc (below_step HBX.out hb2) (.cells #[.slice A2 pk.length a2, .slice A3 pv.length a3] 47)
      have hq0 := below_alloc (Below.refl w2.heap.size w2) (.cells #[.slice A2 pk.length a2, .slice A3 pv.length a3] 47)
      have p0 := (blk_cell (blk_new w2 (.cells #[.slice A2 pk.length a2, .slice A3 pv.length a3] 47)) 0).trans (b := some (Value.slice A2 pk.length a2)) rfl
      have p1 := (blk_cell (blk_new w2 (.cells #[.slice A2 pk.length a2, .slice A3 pv.length a3] 47)) 1).trans (b := some (Value.slice A3 pv.length a3)) rfl
      have HW2 := Lib.hid (below_step HW.out hq1)
      have G2 := Lib.hid (HG.out.keep hq1)
      have O2 := Lib.hid (HO.out.below hq1)
      have T1 := Lib.hid (t1.below hq0)
      have T2 := Lib.hid (t2.below hq0)
      clear o1 o2 t1 t2 hb2 hq1 hq0
      by_cases hp : pc = 0
      · subst hp
        have TK := Lib.hid (take_any w.heap.size rs A2 A3 a2 a3 pv.length pk _ G2.out T1.out (by have := HRL.out; omega))
        go_wp2_with fail
        refine TK.out.mono ?_
        rintro e w3 ht
        rcases ht with ⟨hh, rfl, g3, k3⟩ | ⟨hh, rfl, g3, k3⟩
        · have W3 := Lib.hid (below_only HW2.out k3 (fun i hi => by omega))
          have HF : Hid (res = false) := by
            have h1 := hasG_true.1 hh
            rw [HO.out.fst] at h1
            rw [Hid, ← HR.out, HDU.out h1]
            simp
          clear g3 k3 hh
          go_wp2_with fail
          exact bodyPost_ret (v := .tuple #[.map none, .bool false]) (by simp [results, Tryz.results69, go_sem]) rfl ⟨W3.out, .inl ⟨HF.out, rfl⟩⟩
        · have W3 := Lib.hid (below_only HW2.out k3 (fun i hi => by omega))
          have G3 := Lib.hid g3
          have O3 : Hid (GOf w3 ((rowsPL ps ls).take (k + 1)) (rs ++ [(pk, .slice A3 pv.length a3)])) := by
            rw [Hid, HT.out]
            exact (O2.out.only k3 G2.out.noU8).snoc (x := (pk, pv)) (bs_only T2.out k3 (fun i hi _ => by rw [hi]; exact G2.out.noU8))
          clear g3 k3 hh
          go_wp2_with fail
          go_roundg (n - (k + 1))
          case measure => omega
          case rel => exact ⟨k + 1, rs ++ [(pk, .slice A3 pv.length a3)], by omega, rfl, by go_num, G3, O3, HTA.out.trans (by simp), by have := HRL.out; simp [Hid]; omega, W3.out⟩
      · have hp2 : (pc != 0) = true := by simpa using hp
        have HF : Hid (res = false) := by
          rw [Hid, ← HR.out, HBD.out (by simpa using hp)]
          rfl
        go_wp2_with fail
        exact bodyPost_ret (v := .tuple #[.map none, .bool false]) (by simp [results, Tryz.results69, go_sem]) rfl ⟨HW2.out, .inl ⟨HF.out, rfl⟩⟩
    · obtain rfl : k = n := by omega
      have i1 : ¬ (k : Int) < (k : Int) := by omega
      have HAP : Hid (ps.all okP = true) := by have := HA.out; rw [List.take_of_length_le (by rw [HN.out]; omega)] at this; exact this
      clear HA
      go_wp2_with fail
      go_loopg [38] m (fun gk i wr => ∃ (j : Nat) (rs : List GRow), j ≤ m ∧ gk = m - j ∧ i = .int .i64 (j : Int) ∧ Hid (GMap wr w.heap.size rs) ∧ Hid (GOf wr ((rowsPL ps ls).take (k + j)) rs) ∧ Hid ((ls.take j).all okL = true) ∧ Hid (rs.length = k + j) ∧ Below w.heap.size w wr)
      case atStart => exact ⟨0, rs, by omega, rfl, rfl, HG, HO, rfl, HRL, HW.out⟩
      case round =>
        clear HG HO HRL HW
        obtain ⟨j, rs, hj, rfl, rfl, HG, HO, HA, HRL, hb⟩ := hrel
        have HW := Lib.hid hb
        clear hb
        by_cases hlt : j < m
        · have i1 : (j : Int) < (m : Int) := by omega
          have i0 : (0 : Int) ≤ (j : Int) := by omega
          have HT := Lib.hid (take_row (rowsPL ps ls) (k + j) (by rw [rowsPL_len, HN.out, HM.out]; omega))
          have HGR := Lib.hid (by have := rowsPL_l (ps := ps) (ls := ls) (j := j) (by rw [HM.out]; exact hlt); rwa [HN.out] at this)
          have HBD := Lib.hid (bad_l (ps := ps) (ls := ls) (k := j) (by rw [HM.out]; exact hlt))
          have HDU := Lib.hid (fun h => dup_at (l := rowsPL ps ls) (i := k + j) (by rw [rowsPL_len, HN.out, HM.out]; omega) h)
          obtain ⟨bk, off, A1, a1, rfl, hbk, c0, c1, c2, c3, c4, c5, c6, c7, s1, lb⟩ := HQ.out.lane j _ (getD_get zeroLane (by rw [HM.out]; exact hlt))
          have HTA := Lib.hid (take_all okL zeroLane ls j (by rw [HM.out]; exact hlt))
          rw [HA.out] at HTA
          obtain ⟨x, hx⟩ : ∃ y, ls.getD j zeroLane = y := ⟨_, rfl⟩
          rw [hx] at c0 c1 c2 c3 c4 c5 c6 c7 s1 lb HGR HBD HTA
          rw [show rowL x = ((putLane x).1, (putLane x).2.1) from rfl] at HGR
          rw [show okL x = ((putLane x).2.2 == 0) from rfl] at HBD HTA
          rw [HGR.out] at HT HDU
          have y0 : wr.cell? ⟨bk, off + j * 8, none⟩ = some (.slice A1 x.key.length a1) := (HW.out.cell (p := ⟨bk, _, none⟩) hbk).trans c0
          have y1 : wr.cell? ⟨bk, off + j * 8 + 1, none⟩ = some (.int .i64 x.side) := (HW.out.cell (p := ⟨bk, _, none⟩) hbk).trans c1
          have y2 : wr.cell? ⟨bk, off + j * 8 + 2, none⟩ = some (.int .i64 x.cur) := (HW.out.cell (p := ⟨bk, _, none⟩) hbk).trans c2
          have y3 : wr.cell? ⟨bk, off + j * 8 + 3, none⟩ = some (.int .i64 x.next) := (HW.out.cell (p := ⟨bk, _, none⟩) hbk).trans c3
          have y4 : wr.cell? ⟨bk, off + j * 8 + 4, none⟩ = some (.int .u64 (x.sc : Int)) := (HW.out.cell (p := ⟨bk, _, none⟩) hbk).trans c4
          have y5 : wr.cell? ⟨bk, off + j * 8 + 5, none⟩ = some (.int .u64 (x.ceil : Int)) := (HW.out.cell (p := ⟨bk, _, none⟩) hbk).trans c5
          have y6 : wr.cell? ⟨bk, off + j * 8 + 6, none⟩ = some (.int .i64 x.sec) := (HW.out.cell (p := ⟨bk, _, none⟩) hbk).trans c6
          have y7 : wr.cell? ⟨bk, off + j * 8 + 7, none⟩ = some (.int .i64 x.nano) := (HW.out.cell (p := ⟨bk, _, none⟩) hbk).trans c7
          have HBX := Lib.hid (below_alloc (Below.refl wr.heap.size wr) (.cells #[.slice A1 x.key.length a1, .int .i64 x.side, .int .i64 x.cur, .int .i64 x.next, .int .u64 (x.sc : Int), .int .u64 (x.ceil : Int), .int .i64 x.sec, .int .i64 x.nano] 43))
          have q0 := blk_new wr (.cells #[.slice A1 x.key.length a1, .int .i64 x.side, .int .i64 x.cur, .int .i64 x.next, .int .u64 (x.sc : Int), .int .u64 (x.ceil : Int), .int .i64 x.sec, .int .i64 x.nano] 43)
          have bb0 := (blk_cell q0 0).trans (b := some (Value.slice A1 x.key.length a1)) rfl
          have bb1 := (blk_cell q0 1).trans (b := some (Value.int .i64 x.side)) rfl
          have bb2 := (blk_cell q0 2).trans (b := some (Value.int .i64 x.cur)) rfl
          have bb3 := (blk_cell q0 3).trans (b := some (Value.int .i64 x.next)) rfl
          have bb4 := (blk_cell q0 4).trans (b := some (Value.int .u64 (x.sc : Int))) rfl
          have bb5 := (blk_cell q0 5).trans (b := some (Value.int .u64 (x.ceil : Int))) rfl
          have bb6 := (blk_cell q0 6).trans (b := some (Value.int .i64 x.sec)) rfl
          have bb7 := (blk_cell q0 7).trans (b := some (Value.int .i64 x.nano)) rfl
          have P := Lib.hid (putLane_any A1 a1 x (wr.alloc (.cells #[.slice A1 x.key.length a1, .int .i64 x.side, .int .i64 x.cur, .int .i64 x.next, .int .u64 (x.sc : Int), .int .u64 (x.ceil : Int), .int .i64 x.sec, .int .i64 x.nano] 43)) ((s1.1.below HW.out).below (below_alloc (Below.refl _ _) (.cells #[.slice A1 x.key.length a1, .int .i64 x.side, .int .i64 x.cur, .int .i64 x.next, .int .u64 (x.sc : Int), .int .u64 (x.ceil : Int), .int .i64 x.sec, .int .i64 x.nano] 43))) lb)
          unfold laneV at P
          generalize hpp : putLane x = pp at HT HGR HBD HDU HTA P
          obtain ⟨pk, pv, pc⟩ := pp
          dsimp only at HT HGR HBD HDU HTA P
          clear c0 c1 c2 c3 c4 c5 c6 c7 s1 lb hx hpp q0 HGR
          go_wp2_with fail
          refine P.out.mono ?_
          rintro e w2 ⟨v1, v2, rfl, o1, o2, hb2⟩
          obtain ⟨A2, a2, rfl, t1⟩ := o1.bs
          obtain ⟨A3, a3, rfl, t2⟩ := o2.bs
          have hq1 := below_alloc (below_step HBX.out hb2) (.cells #[.slice A2 pk.length a2, .slice A3 pv.length a3] 47)
          have hq0 := below_alloc (Below.refl w2.heap.size w2) (.cells #[.slice A2 pk.length a2, .slice A3 pv.length a3] 47)
          have p0 := (blk_cell (blk_new w2 (.cells #[.slice A2 pk.length a2, .slice A3 pv.length a3] 47)) 0).trans (b := some (Value.slice A2 pk.length a2)) rfl
          have p1 := (blk_cell (blk_new w2 (.cells #[.slice A2 pk.length a2, .slice A3 pv.length a3] 47)) 1).trans (b := some (Value.slice A3 pv.length a3)) rfl
          have HW2 := Lib.hid (below_step HW.out hq1)
          have G2 := Lib.hid (HG.out.keep hq1)
          have O2 := Lib.hid (HO.out.below hq1)
          have T1 := Lib.hid (t1.below hq0)
          have T2 := Lib.hid (t2.below hq0)
          clear o1 o2 t1 t2 hb2 hq1 hq0
          by_cases hp : pc = 0
          · subst hp
            have TK := Lib.hid (take_any w.heap.size rs A2 A3 a2 a3 pv.length pk _ G2.out T1.out (by have := HRL.out; omega))
            go_wp2_with fail
            refine TK.out.mono ?_
            rintro e w3 ht
            rcases ht with ⟨hh, rfl, g3, k3⟩ | ⟨hh, rfl, g3, k3⟩
            · have W3 := Lib.hid (below_only HW2.out k3 (fun i hi => by omega))
              have HF : Hid (res = false) := by
                have h1 := hasG_true.1 hh
                rw [HO.out.fst] at h1
                rw [Hid, ← HR.out, HDU.out h1]
                simp
              clear g3 k3 hh
              go_wp2_with fail
              exact bodyPost_ret (v := .tuple #[.map none, .bool false]) (by simp [results, Tryz.results69, go_sem]) rfl ⟨W3.out, .inl ⟨HF.out, rfl⟩⟩
            · have W3 := Lib.hid (below_only HW2.out k3 (fun i hi => by omega))
              have G3 := Lib.hid g3
              have O3 : Hid (GOf w3 ((rowsPL ps ls).take (k + j + 1)) (rs ++ [(pk, .slice A3 pv.length a3)])) := by
                rw [Hid, HT.out]
                exact (O2.out.only k3 G2.out.noU8).snoc (x := (pk, pv)) (bs_only T2.out k3 (fun i hi _ => by rw [hi]; exact G2.out.noU8))
              clear g3 k3 hh
              go_wp2_with fail
              go_roundg (m - (j + 1))
              case measure => omega
              case rel => exact ⟨j + 1, rs ++ [(pk, .slice A3 pv.length a3)], by omega, rfl, by go_num, G3, O3, HTA.out.trans (by simp), by have := HRL.out; simp [Hid]; omega, W3.out⟩
          · have hp2 : (pc != 0) = true := by simpa using hp
            have HF : Hid (res = false) := by
              rw [Hid, ← HR.out, HBD.out (by simpa using hp)]
              rfl
            go_wp2_with fail
            exact bodyPost_ret (v := .tuple #[.map none, .bool false]) (by simp [results, Tryz.results69, go_sem]) rfl ⟨HW2.out, .inl ⟨HF.out, rfl⟩⟩
        · obtain rfl : j = m := by omega
          have j1 : ¬ (j : Int) < (j : Int) := by omega
          have hall : (rowsPL ps ls).take (k + j) = rowsPL ps ls := List.take_of_length_le (by rw [rowsPL_len, HN.out, HM.out]; omega)
          have HO2 : Hid (GOf wr (rowsPL ps ls) rs) := by rw [Hid, ← hall]; exact HO.out
          have HT : Hid (res = true) := by
            have h5 := (twice_nodup (rowsPL ps ls)).2 (by rw [← HO2.out.fst]; exact HG.out.2)
            have h6 : ls.all okL = true := by have := HA.out; rw [List.take_of_length_le (by rw [HM.out]; omega)] at this; exact this
            rw [Hid, ← HR.out, h5]
            unfold goodPL
            rw [HAP.out, h6]
            rfl
          clear hall HO
          go_wp2_with fail
          exact bodyPost_ret (v := .tuple #[.map (some w.heap.size), .bool true]) (by simp [results, Tryz.results69, go_sem]) rfl ⟨HW.out, .inr ⟨HT.out, w.heap.size, rs, rfl, Nat.le_refl _, HG.out, HO2.out⟩⟩
end Go.Proofs.YtafdhccdjbfepaaGreat.Lst
/- Peers, lanes and a case as they come in. -/
namespace Go.Proofs.YtafdhccdjbfepaaGreat.Lst
open Go.ChangeShapes Go.WideShapes Go.ChangeAt Go.RowKit Go.Proofs.YtafdhccdjbfepaaGreat.K Go.Proofs.YtafdhccdjbfepaaGreat.Help Go.Proofs.YtafdhccdjbfepaaGreat.Pfx Go.Proofs.YtafdhccdjbfepaaGreat.Peer
set_option linter.unusedVariables false

set_option maxRecDepth 100000 in
theorem trod_peers {H : Type} {enc : TypeId × Value → H} {W : World} {fuel : Nat} {cs : List Value} {y : DataW H × List MemPlace} (h : DataW.trod enc Tryz.prog W 0 (fun _ => true) true fuel 22 cs = some y) (hz : Small y.1 22) :
    ∃ A c l, cs = [.slice A l.length c] ∧ Lst PeerE W (fun _ => False) A c l := by
  refine trod_list PeerE Tryz.underlying22 cellsOf_peer (by decide) (fun n cs z hn hsm => ?_) h hz
  obtain ⟨xs, n', _, hx, hl, hxs, hfl⟩ := DataW.trod_struct Tryz.underlying36 hn
  rw [cellsOf_peer] at hl
  match cs, hl with
  | [c0, c1, c2], _ =>
    have f0 : DataW.trod enc Tryz.prog W 0 (fun _ => true) true n' 3 (([c0, c1, c2].drop 0).take (Tryz.prog.cellsOf 3)) = xs[0]? := hfl 0 _ rfl
    have f1 : DataW.trod enc Tryz.prog W 0 (fun _ => true) true n' 33 (([c0, c1, c2].drop 1).take (Tryz.prog.cellsOf 33)) = xs[1]? := hfl 1 _ rfl
    have f2 : DataW.trod enc Tryz.prog W 0 (fun _ => true) true n' 34 (([c0, c1, c2].drop 2).take (Tryz.prog.cellsOf 34)) = xs[2]? := hfl 2 _ rfl
    rw [cellsOf_int] at f0
    rw [cellsOf_bytes] at f1
    rw [cellsOf_pfxs] at f2
    have hxl : xs.length = 3 := hxs
    match xs, hxl with
    | [y0, y1, y2], _ =>
      have hd : z.1 = .agg [y0.1, y1.1, y2.1] := by rw [hx]; rfl
      have w1 : Small y1.1 33 := fun n hn => hsm n (by rw [hd]; simp only [DataW.weights, Tryz.underlying36]; simp [DataW.weightsEach]; exact .inr (.inl hn))
      obtain ⟨z0, e0, _, q0⟩ := DataW.trod_int Tryz.underlying3 f0
      obtain ⟨A, a, k, e1, s1⟩ := trod_bytes f1 w1
      obtain ⟨B, b, l, e2, s2⟩ := trod_pfxs f2
      simp at e0 e1 e2
      subst e0 e1 e2
      exact ⟨⟨z0, k, l⟩, A, a, B, b, rfl, Bs.bsn s1, Ps.psn s2⟩
set_option maxRecDepth 100000 in
theorem trod_lanes {H : Type} {enc : TypeId × Value → H} {W : World} {fuel : Nat} {cs : List Value} {y : DataW H × List MemPlace} (h : DataW.trod enc Tryz.prog W 0 (fun _ => true) true fuel 23 cs = some y) (hz : Small y.1 23) :
    ∃ A c l, cs = [.slice A l.length c] ∧ Lst LaneE W (fun _ => False) A c l := by
  refine trod_list LaneE Tryz.underlying23 cellsOf_lane (by decide) (fun n cs z hn hsm => ?_) h hz
  obtain ⟨xs, n', _, hx, hl, hxs, hfl⟩ := DataW.trod_struct Tryz.underlying43 hn
  rw [cellsOf_lane] at hl
  match cs, hl with
  | [c0, c1, c2, c3, c4, c5, c6, c7], _ =>
    have f0 : DataW.trod enc Tryz.prog W 0 (fun _ => true) true n' 33 (([c0, c1, c2, c3, c4, c5, c6, c7].drop 0).take (Tryz.prog.cellsOf 33)) = xs[0]? := hfl 0 _ rfl
    have f1 : DataW.trod enc Tryz.prog W 0 (fun _ => true) true n' 3 (([c0, c1, c2, c3, c4, c5, c6, c7].drop 1).take (Tryz.prog.cellsOf 3)) = xs[1]? := hfl 1 _ rfl
    have f2 : DataW.trod enc Tryz.prog W 0 (fun _ => true) true n' 3 (([c0, c1, c2, c3, c4, c5, c6, c7].drop 2).take (Tryz.prog.cellsOf 3)) = xs[2]? := hfl 2 _ rfl
    have f3 : DataW.trod enc Tryz.prog W 0 (fun _ => true) true n' 3 (([c0, c1, c2, c3, c4, c5, c6, c7].drop 3).take (Tryz.prog.cellsOf 3)) = xs[3]? := hfl 3 _ rfl
    have f4 : DataW.trod enc Tryz.prog W 0 (fun _ => true) true n' 39 (([c0, c1, c2, c3, c4, c5, c6, c7].drop 4).take (Tryz.prog.cellsOf 39)) = xs[4]? := hfl 4 _ rfl
    have f5 : DataW.trod enc Tryz.prog W 0 (fun _ => true) true n' 39 (([c0, c1, c2, c3, c4, c5, c6, c7].drop 5).take (Tryz.prog.cellsOf 39)) = xs[5]? := hfl 5 _ rfl
    have f6 : DataW.trod enc Tryz.prog W 0 (fun _ => true) true n' 41 (([c0, c1, c2, c3, c4, c5, c6, c7].drop 6).take (Tryz.prog.cellsOf 41)) = xs[6]? := hfl 6 _ rfl
    rw [cellsOf_bytes] at f0
    rw [cellsOf_int] at f1 f2 f3
    rw [cellsOf_u64] at f4 f5
    rw [cellsOf_stamp] at f6
    have hxl : xs.length = 7 := hxs
    match xs, hxl with
    | [y0, y1, y2, y3, y4, y5, y6], _ =>
      have hd : z.1 = .agg [y0.1, y1.1, y2.1, y3.1, y4.1, y5.1, y6.1] := by rw [hx]; rfl
      have w0 : Small y0.1 33 := fun n hn => hsm n (by rw [hd]; simp only [DataW.weights, Tryz.underlying43]; simp [DataW.weightsEach]; exact .inl hn)
      obtain ⟨A, a, k, e0, s0⟩ := trod_bytes f0 w0
      obtain ⟨z1, e1, _, q1⟩ := DataW.trod_int Tryz.underlying3 f1
      obtain ⟨z2, e2, _, q2⟩ := DataW.trod_int Tryz.underlying3 f2
      obtain ⟨z3, e3, _, q3⟩ := DataW.trod_int Tryz.underlying3 f3
      obtain ⟨z4, e4, _, q4⟩ := DataW.trod_int Tryz.underlying39 f4
      obtain ⟨z5, e5, _, q5⟩ := DataW.trod_int Tryz.underlying39 f5
      obtain ⟨ys, n2, _, _, _, hys, hfs⟩ := DataW.trod_struct Tryz.underlying41 f6
      have g0 : DataW.trod enc Tryz.prog W 0 (fun _ => true) true n2 3 (([c6, c7].drop 0).take (Tryz.prog.cellsOf 3)) = ys[0]? := hfs 0 _ rfl
      have g1 : DataW.trod enc Tryz.prog W 0 (fun _ => true) true n2 3 (([c6, c7].drop 1).take (Tryz.prog.cellsOf 3)) = ys[1]? := hfs 1 _ rfl
      rw [cellsOf_int] at g0 g1
      have hyl : ys.length = 2 := hys
      match ys, hyl with
      | [u0, u1], _ =>
        obtain ⟨z6, e6, _, q6⟩ := DataW.trod_int Tryz.underlying3 g0
        obtain ⟨z7, e7, _, q7⟩ := DataW.trod_int Tryz.underlying3 g1
        simp at e0 e1 e2 e3 e4 e5 e6 e7
        subst e0 e1 e2 e3 e4 e5 e6 e7
        obtain ⟨m4, rfl, b4⟩ := nat_u64 q4
        obtain ⟨m5, rfl, b5⟩ := nat_u64 q5
        have b6 := wf_i64 q6
        exact ⟨⟨k, z1, z2, z3, m4, m5, z6, z7⟩, A, a, rfl, Bs.bsn s0, ⟨b4, b5, b6.2⟩⟩
theorem cellsOf_case : Tryz.prog.cellsOf 25 = 4 := by kernel_rfl
theorem cellsOf_peers : Tryz.prog.cellsOf 22 = 1 := by kernel_rfl
theorem cellsOf_lanes : Tryz.prog.cellsOf 23 = 1 := by kernel_rfl
theorem arr4 {cs : Array Value} (h : cs.size = 4) : ∃ c0 c1 c2 c3, cs = #[c0, c1, c2, c3] := by
  obtain ⟨l⟩ := cs
  match l, h with
  | [c0, c1, c2, c3], _ => exact ⟨c0, c1, c2, c3, rfl⟩
/-- a case: peers, new peers, lanes, new lanes -/
def caseV (A A' B B' : Option Addr) (a a' b b' n n' m m' : Nat) : Value := .agg #[.slice A n a, .slice A' n' a', .slice B m b, .slice B' m' b']
set_option maxRecDepth 100000 in
theorem arg_case {H : Type} {enc : TypeId × Value → H} {W : World} {b0 : Nat} {v : Value} {d : DataW H} {ps : List MemPlace}
    (hval : Value.okWide Tryz.prog W .any b0 25 v) (h : DataW.Trod enc Tryz.prog W 0 (fun _ => true) true 25 v d ps) (hz : Small d 25) :
    ∃ A A' B B' a a' b b' ps ps' ls ls', v = caseV A A' B B' a a' b b' ps.length ps'.length ls.length ls'.length ∧ Lst PeerE W (fun _ => False) A a ps ∧ Lst PeerE W (fun _ => False) A' a' ps' ∧ Lst LaneE W (fun _ => False) B b ls ∧ Lst LaneE W (fun _ => False) B' b' ls' := by
  obtain ⟨cs, rfl, hsz⟩ := okWide_struct Tryz.underlying25 hval
  obtain ⟨c0, c1, c2, c3, rfl⟩ := arr4 (hsz.trans cellsOf_case)
  obtain ⟨fuel, hf⟩ := h
  obtain ⟨xs, n', _, hx, hl, hxs, hfl⟩ := DataW.trod_struct Tryz.underlying25 hf
  have f0 : DataW.trod enc Tryz.prog W 0 (fun _ => true) true n' 22 (([c0, c1, c2, c3].drop 0).take (Tryz.prog.cellsOf 22)) = xs[0]? := hfl 0 _ rfl
  have f1 : DataW.trod enc Tryz.prog W 0 (fun _ => true) true n' 22 (([c0, c1, c2, c3].drop 1).take (Tryz.prog.cellsOf 22)) = xs[1]? := hfl 1 _ rfl
  have f2 : DataW.trod enc Tryz.prog W 0 (fun _ => true) true n' 23 (([c0, c1, c2, c3].drop 2).take (Tryz.prog.cellsOf 23)) = xs[2]? := hfl 2 _ rfl
  have f3 : DataW.trod enc Tryz.prog W 0 (fun _ => true) true n' 23 (([c0, c1, c2, c3].drop 3).take (Tryz.prog.cellsOf 23)) = xs[3]? := hfl 3 _ rfl
  rw [cellsOf_peers] at f0 f1
  rw [cellsOf_lanes] at f2 f3
  have hxl : xs.length = 4 := hxs
  match xs, hxl with
  | [y0, y1, y2, y3], _ =>
    injection hx with hd hp
    subst hd
    have w0 : Small y0.1 22 := fun n hn => hz n (by simp only [DataW.weights, Tryz.underlying25]; simp [DataW.weightsEach]; exact .inl hn)
    have w1 : Small y1.1 22 := fun n hn => hz n (by simp only [DataW.weights, Tryz.underlying25]; simp [DataW.weightsEach]; exact .inr (.inl hn))
    have w2 : Small y2.1 23 := fun n hn => hz n (by simp only [DataW.weights, Tryz.underlying25]; simp [DataW.weightsEach]; exact .inr (.inr (.inl hn)))
    have w3 : Small y3.1 23 := fun n hn => hz n (by simp only [DataW.weights, Tryz.underlying25]; simp [DataW.weightsEach]; exact .inr (.inr (.inr hn)))
    obtain ⟨A, a, ps, e0, s0⟩ := trod_peers f0 w0
    obtain ⟨A', a', ps', e1, s1⟩ := trod_peers f1 w1
    obtain ⟨B, b, ls, e2, s2⟩ := trod_lanes f2 w2
    obtain ⟨B', b', ls', e3, s3⟩ := trod_lanes f3 w3
    simp at e0 e1 e2 e3
    subst e0 e1 e2 e3
    exact ⟨A, A', B, B', a, a', b, b', ps, ps', ls, ls', rfl, s0, s1, s2, s3⟩
end Go.Proofs.YtafdhccdjbfepaaGreat.Lst
/- The walk of rows.Sets. -/
namespace Go.Proofs.YtafdhccdjbfepaaGreat.Lst
open Go.RowKit Go.Proofs.YtafdhccdjbfepaaGreat.K Go.Proofs.YtafdhccdjbfepaaGreat.Help Go.Proofs.YtafdhccdjbfepaaGreat.Pfx Go.Proofs.YtafdhccdjbfepaaGreat.Peer
set_option linter.unusedVariables false

theorem GOf.has {w : World} {l : List RowD} {rs : List GRow} (h : GOf w l rs) (k : List UInt8) : hasG rs k = hasK l k := by
  rw [Bool.eq_iff_iff, hasG_true, hasK_mem, h.fst]
theorem okPL_nodup {ps : List PeerD} {ls : List LaneD} (h : okPL ps ls = true) : ((rowsPL ps ls).map Prod.fst).Nodup := by
  unfold okPL at h
  rw [Bool.and_eq_true] at h
  exact (twice_nodup _).1 (by simpa using h.2)
theorem rowsPL_key (ps : List PeerD) (ls : List LaneD) : ∀ k, k ∈ (rowsPL ps ls).map Prod.fst → k.length ≤ 33 := by
  intro k hk
  obtain ⟨r, hr, rfl⟩ := List.mem_map.1 hk
  unfold rowsPL at hr
  rcases List.mem_append.1 hr with h | h
  · obtain ⟨p, _, rfl⟩ := List.mem_map.1 h
    unfold rowP
    by_cases hp : peerOk p
    · rw [putPeer_ok hp]; simp [be]
    · rw [putPeer_bad hp]; simp
  · obtain ⟨p, _, rfl⟩ := List.mem_map.1 h
    unfold rowL
    by_cases hp : laneOk p
    · rw [putLane_yes hp]; have := hp.1; simp; omega
    · rw [putLane_no hp]; simp
/-- the sets under way -/
structure S3 (w3 wr : World) (v : Value) (s : List SetD) : Prop where
  o : OwnL SetE 123 wr (fun _ => False) w3.heap.size v s
  b : Below w3.heap.size w3 wr
section
variable {w3 wr w1 : World} {v v1 : Value} {s : List SetD}
theorem S3.start (w3 : World) : S3 w3 w3 (.slice none 0 0) [] := ⟨OwnL.nil _ _ _ _ _, Below.refl _ _⟩
theorem S3.step (h : S3 w3 wr v s) (hb : Below wr.heap.size wr w1) : S3 w3 w1 v s := ⟨h.o.below hb, below_step h.b hb⟩
theorem S3.push (h : S3 w3 wr v s) {x : SetD} (o : OwnL SetE 123 w1 (fun _ => False) w3.heap.size v1 (s ++ [x])) (k : Only wr w1 (fun k => v.ownBlock = some k)) : S3 w3 w1 v1 (s ++ [x]) :=
  ⟨o, below_only h.b k (fun i hi => h.o.base_le hi)⟩
theorem S3.el (h : S3 w3 wr v s) {W1 : World} (hb : Below wr.heap.size wr W1) {A B : Option Addr} {a b : Nat} {key val : List UInt8} {g : Bool} (h1 : Bs W1 A a key) (n1 : Nw wr A) (h2 : Bs w3 B b val) :
    SetE.R W1 (fun k => False ∨ v.ownBlock = some k) [Value.slice A key.length a, .slice B val.length b, .bool g] (key, val, g) := by
  refine ⟨A, a, B, b, rfl, Bs.fresh h1 n1 (fun i hi => hi.elim (fun h => h.elim) (fun e => h.o.lt e)), ?_⟩
  refine ⟨h2.below (below_step h.b hb), fun hl ad e hn => ?_⟩
  have h3 := Bs.blk h2 hl ad e
  have h4 := hn.elim (fun h => h.elim) (fun e => h.o.base_le e)
  omega
end
/-- the same beside a list of keys -/
structure S4 (w3 wr : World) (v : Value) (s : List SetD) (A : Option Addr) (c : Nat) (ks : List (List UInt8)) : Prop where
  s : S3 w3 wr v s
  t : Lst StrE wr (fun k => v.ownBlock = some k) A c ks
section
variable {w3 wr w1 : World} {v v1 : Value} {s : List SetD} {A : Option Addr} {c : Nat} {ks : List (List UInt8)}
theorem S4.start (h : S3 w3 wr v s) (hb : Below wr.heap.size wr w1) (hl : Lst StrE w1 (fun _ => False) A c ks) (hn : Nw wr A) : S4 w3 w1 v s A c ks :=
  ⟨h.step hb, ⟨hl.le, hl.max, fun i x hx => by
    obtain ⟨bk, off, raw, e, hlt, _, hc, hr⟩ := hl.at_ i x hx
    exact ⟨bk, off, raw, e, hlt, fun ho => by have h1 := hn _ e; have h2 := h.o.lt ho; dsimp only at h1; omega, hc, hr⟩⟩⟩
theorem S4.step (h : S4 w3 wr v s A c ks) (hb : Below wr.heap.size wr w1) : S4 w3 w1 v s A c ks := ⟨h.s.step hb, h.t.below hb⟩
theorem S4.push (h : S4 w3 wr v s A c ks) {x : SetD} (o : OwnL SetE 123 w1 (fun _ => False) w3.heap.size v1 (s ++ [x])) (k : Only wr w1 (fun k => v.ownBlock = some k)) (hn : ∀ i, v1.ownBlock = some i → v.ownBlock = some i ∨ wr.heap.size ≤ i) : S4 w3 w1 v1 (s ++ [x]) A c ks :=
  ⟨h.s.push o k, (((h.t.reno (N' := fun k => v.ownBlock = some k ∨ v1.ownBlock = some k) (fun i hi => hi.elim .inl (hn i))).only k (fun i _ hi => .inl hi)).reno (fun i hi => .inl (.inr hi)))⟩
end
section
open Go.Maps
variable {ops : Array Oper} {rest : List Oper} {o : Oper} {a : Act} {Q : Exit → Act → World → Prop} {w : World} {b : Nat} {rs : List GRow}
theorem look_vg (hw : Region.wanted o (yielded ops a.tmps) = true) (m x : Operand) (hop : o.op = Op.lookup 116 m x false) (hm : a.eval m = .map (some b)) (h : GMap w b rs) (k : List UInt8) (hx : a.eval x = .string ⟨k.toArray⟩) (hk : k.length ≤ maxLen)
    (hK : wpList Tryz.prog ops Q rest (a.put o.dst (lookG rs k)) w) : wpList Tryz.prog ops Q (o :: rest) a w := by
  refine BigFrame.wpList_want hw fun K' hK' => ?_
  obtain ⟨v, ps, hrun, hv⟩ := h.1.lookup K_str u_map (z_bytes w) (zd := .held (.slice none 0 0)) (zp := []) rfl (key := .string ⟨k.toArray⟩) (kl := .string k) (by simpa using WideMaps.keyOf_string_mk u_str (s := ⟨k.toArray⟩) (by simpa [ByteArray.size] using hk))
  rw [mapD_at rs k h.2] at hv
  unfold RV at hv
  injection hv with hv
  injection hv with hv
  injection hv with hv
  subst hv
  unfold Oper.wp
  simp [execOp, hop, hm, hx, hrun, Result.andThen]
  exact hK' _ _ hK
end
theorem nw_at (w : World) (o : Nat) : Nw w (some ⟨w.heap.size, o, none⟩) := fun ad e => by injection e with e; rw [← e]; exact Nat.le_refl _
noncomputable def progQ (ps ps' : List PeerD) (ls ls' : List LaneD) : QD := if (okPL ps ls && okPL ps' ls') = true then (sortS (rawSets (rowsPL ps ls) (rowsPL ps' ls')), 0) else ([], 114)
theorem progQ_eq (ps ps' : List PeerD) (ls ls' : List LaneD) : progQ ps ps' ls ls' = refSets ps ps' ls ls' := by
  unfold progQ refSets
  by_cases h : (okPL ps ls && okPL ps' ls') = true
  · rw [if_pos h, if_pos h]
    rw [Bool.and_eq_true] at h
    rw [progSets_eq (okPL_nodup h.1) (okPL_nodup h.2)]
  · rw [if_neg h, if_neg h]
set_option maxRecDepth 100000 in
set_option maxHeartbeats 8000000 in
theorem sets_any (A A' B B' : Option Addr) (a a' b b' : Nat) (ps ps' : List PeerD) (ls ls' : List LaneD) (w : World) (hp : Lst PeerE w (fun _ => False) A a ps) (hp' : Lst PeerE w (fun _ => False) A' a' ps') (hq : Lst LaneE w (fun _ => False) B b ls) (hq' : Lst LaneE w (fun _ => False) B' b' ls')
    (hn : ps.length ≤ 100) (hn' : ps'.length ≤ 100) (hm : ls.length ≤ 100) (hm' : ls'.length ≤ 100) :
    Calls Tryz.prog 30 #[.slice A ps.length a, .slice A' ps'.length a', .slice B ls.length b, .slice B' ls'.length b'] w (RetQ w (progQ ps ps' ls ls')) := by
  have R1 := Lib.hid (mapState_any A B a b ps ls w hp hq (by omega) (by omega))
  have R2 := Lib.hid (fun W h h' => mapState_any A' B' a' b' ps' ls' W h h' (by omega) (by omega))
  have HP2 := Lib.hid hp'
  have HQ2 := Lib.hid hq'
  have L1 := Lib.hid (rowsPL_len ps ls)
  have L2 := Lib.hid (rowsPL_len ps' ls')
  have N1 := Lib.hid (okPL_nodup (ps := ps) (ls := ls))
  have N2 := Lib.hid (okPL_nodup (ps := ps') (ls := ls'))
  have K1 := Lib.hid (rowsPL_key ps ls)
  have K2 := Lib.hid (rowsPL_key ps' ls')
  rw [show (goodPL ps ls && !twiceB (rowsPL ps ls)) = okPL ps ls from rfl] at R1
  rw [show (goodPL ps' ls' && !twiceB (rowsPL ps' ls')) = okPL ps' ls' from rfl] at R2
  generalize hr : progQ ps ps' ls ls' = res
  have HR := Lib.hid hr
  clear hr hp hp' hq hq'
  unfold progQ at HR
  generalize rowsPL ps ls = was at *
  generalize rowsPL ps' ls' = is_ at *
  generalize okPL ps ls = g1 at *
  generalize okPL ps' ls' = g2 at *
  have LW : Hid (was.length ≤ 200) := by rw [Hid, L1.out]; omega
  have LI : Hid (is_.length ≤ 200) := by rw [Hid, L2.out]; omega
  clear L1 L2
  go_enter Tryz.func30, Tryz.ntmps30
  go_wp2_with fail
  refine R1.out.mono ?_
  rintro e w1 ⟨hb1, h1⟩
  have W1 := Lib.hid hb1
  clear hb1 R1
  rcases h1 with ⟨rfl, rfl⟩ | ⟨rfl, b1, rs1, rfl, hbs1, hg1, ho1⟩
  · have HE : Hid (res = ([], 114)) := by rw [Hid, ← HR.out]; rfl
    clear HR N1 N2
    go_wp2_with fail
    refine (R2.out w1 (HP2.out.below W1.out) (HQ2.out.below W1.out)).mono ?_
    rintro e w2 ⟨hb2, h2⟩
    have W2 := Lib.hid (below_step W1.out hb2)
    clear hb2
    rcases h2 with ⟨rfl, rfl⟩ | ⟨rfl, b2, rs2, rfl, -⟩
    all_goals
      go_wp2_with fail
      exact bodyPost_ret (v := .tuple #[.slice none 0 0, .int .i64 114]) (by simp [results, Tryz.results30, go_sem]) rfl ⟨none, 0, by rw [HE.out]; rfl, by rw [HE.out]; exact Lst.nil _ _, W2.out⟩
  have G1 := Lib.hid hg1
  have O1 := Lib.hid ho1
  clear hbs1 hg1 ho1
  go_wp2_with fail
  refine (R2.out w1 (HP2.out.below W1.out) (HQ2.out.below W1.out)).mono ?_
  rintro e w2 ⟨hb2, h2⟩
  have W2 := Lib.hid (below_step W1.out hb2)
  have G12 := Lib.hid (G1.out.keep hb2)
  have O12 := Lib.hid (O1.out.below hb2)
  clear hb2 R2 G1 O1
  rcases h2 with ⟨rfl, rfl⟩ | ⟨rfl, b2, rs2, rfl, hbs2, hg2, ho2⟩
  · have HE : Hid (res = ([], 114)) := by rw [Hid, ← HR.out]; rfl
    clear HR N1 N2
    go_wp2_with fail
    exact bodyPost_ret (v := .tuple #[.slice none 0 0, .int .i64 114]) (by simp [results, Tryz.results30, go_sem]) rfl ⟨none, 0, by rw [HE.out]; rfl, by rw [HE.out]; exact Lst.nil _ _, W2.out⟩
  have HE : Hid (res = (sortS (rawSets was is_), 0)) := by rw [Hid, ← HR.out]; rfl
  have D1 := Lib.hid (N1.out (by simp))
  have D2 := Lib.hid (N2.out (by simp))
  have G22 := Lib.hid hg2
  have O22 := Lib.hid ho2
  have Q1 := Lib.hid (O12.out.has)
  have RL1 : Hid (rs1.length ≤ 200) := by rw [Hid, O12.out.1]; exact LW.out
  have RL2 : Hid (rs2.length ≤ 200) := by rw [Hid, O22.out.1]; exact LI.out
  have Q2 := Lib.hid (O22.out.has)
  clear HR N1 N2 hbs2 hg2 ho2
  have RN := Lib.hid (raw_nodup D1.out D2.out)
  unfold rawSets at HE RN
  have KY := Lib.hid (keys_any b2 rs2 w2 G22.out (by have := RL2.out; omega))
  have HKS : Hid (keysOf rs2 = keysL is_) := by rw [Hid]; unfold keysOf keysL; rw [O22.out.fst]
  rw [HKS.out] at KY
  have HKM : Hid (∀ x, x ∈ keysL is_ → x ∈ is_.map Prod.fst) := Lib.hid (fun x hx => (List.mergeSort_perm _ _).mem_iff.1 hx)
  have HKL : Hid ((keysL is_).length ≤ 200) := by have := LI.out; unfold keysL; simpa [Hid] using this
  have HFS := Lib.hid (fun j hj => take_fold (stepPA was is_) [] [] (keysL is_) j hj)
  clear HKS
  generalize keysL is_ = ks at *
  go_wp2_with fail
  refine KY.out.mono ?_
  rintro e w3 ⟨KA, kc, rfl, hkl, hb3⟩
  have HKK := Lib.hid hkl
  have W3 := Lib.hid (below_step W2.out hb3)
  have G1 := Lib.hid (G12.out.keep hb3)
  have O1 := Lib.hid (O12.out.below hb3)
  have G2 := Lib.hid (G22.out.keep hb3)
  have O2 := Lib.hid (O22.out.below hb3)
  have hkc := hkl.le
  have hkc2 := hkl.max
  have HS3 := Lib.hid (S3.start w3)
  clear hkl hb3 KY G12 O12 G22 O22
  generalize hm : ks.length = m at *
  have HM := Lib.hid hm
  clear hm
  go_wp2_with fail
  go_loopg [44, 14] m (fun gk i s14 wr => ∃ (j : Nat) (s : List SetD), j ≤ m ∧ gk = m - j ∧ i = .int .i64 (j : Int) ∧ Hid ((ks.take j).foldl (stepPA was is_) [] = s) ∧ Hid (s.length ≤ j) ∧ Hid (S3 w3 wr s14 s))
  case atStart => exact ⟨0, [], by omega, rfl, rfl, rfl, by simp [Hid], HS3.out⟩
  case round =>
    clear HS3
    obtain ⟨j, s, hj, rfl, rfl, HF, HLn, HS⟩ := hrel
    obtain ⟨S, sc, rfl⟩ := HS.out.o.slice
    by_cases hjt : j < m
    · have j1 : (j : Int) < (m : Int) := by omega
      have j0 : (0 : Int) ≤ (j : Int) := by omega
      have HST := Lib.hid (HFS.out j hjt)
      rw [HF.out] at HST
      have hkk : ks[j]? = some (ks.getD j []) := getD_get [] (by rw [HM.out]; exact hjt)
      obtain ⟨bk, off, raw, rfl, hbk, -, hc, hraw⟩ := HKK.out.at_ j _ hkk
      have hmem := HKM.out _ (List.mem_of_getElem? hkk)
      obtain ⟨kk, hx⟩ : ∃ y, ks.getD j [] = y := ⟨_, rfl⟩
      rw [hx] at hmem hraw HST
      cases hraw
      have y0 : wr.cell? ⟨bk, off + j, none⟩ = some (.string ⟨kk.toArray⟩) := by
        have := (HS.out.b.cell (p := ⟨bk, off + j * 1 + 0, none⟩) hbk).trans (hc 0 (by decide))
        simpa [encStr] using this
      obtain ⟨VB, vb, hlook, hvb⟩ := find_pair kk is_ rs2 O2.out hmem
      have hkl : kk.length ≤ 140737488355328 := by have := K2.out kk hmem; omega
      have hkm : kk.length ≤ maxLen := by simp only [maxLen]; omega
      have HKM2 := Lib.hid hkm
      have HLK := Lib.hid hlook
      have HV := Lib.hid hvb
      have Ga := Lib.hid (G1.out.keep HS.out.b)
      have Gb := Lib.hid (G2.out.keep HS.out.b)
      have HQ := Q1.out kk
      have HHM : Hid (hasK was kk = true → kk ∈ was.map Prod.fst) := Lib.hid hasK_mem.1
      rw [show stepPA was is_ s kk = if (hasK was kk && decide (valOf was kk = valOf is_ kk)) = true then s else s ++ [(kk, valOf is_ kk, false)] from rfl] at HST
      have BC := Lib.hid (bytes_of · kk hkl)
      clear hlook hvb hkm hmem hx hkk hc
      generalize hhk : hasK was kk = hk at *
      clear hhk
      cases hk
      · have HH := Lib.hid HQ
        have HST2 : Hid ((ks.take (j + 1)).foldl (stepPA was is_) [] = s ++ [(kk, valOf is_ kk, false)]) := HST
        clear HQ HST
        obtain ⟨cap, w4, hcv, hs4, hb4⟩ := BC.out wr
        generalize valOf is_ kk = vv at *
        have B4 := Lib.hid hb4
        have Gc := Lib.hid (Gb.out.keep hb4)
        have E5 := Lib.hid (HS.out.el (below_alloc hb4 (.cells #[Value.slice (some ⟨wr.heap.size, 0, none⟩) kk.length cap, .slice VB vv.length vb, .bool false] 123)) (g := false) (hs4.below (below_alloc (Below.refl _ _) _)) (nw_at wr 0) HV.out)
        have S5 := Lib.hid (HS.out.step (below_alloc hb4 (.cells #[Value.slice (some ⟨wr.heap.size, 0, none⟩) kk.length cap, .slice VB vv.length vb, .bool false] 123)))
        have X5 := Lib.hid (blk_new w4 (.cells #[Value.slice (some ⟨wr.heap.size, 0, none⟩) kk.length cap, .slice VB vv.length vb, .bool false] 123))
        clear hs4 hb4
        go_wp2_with (first
          | (at_lookup; refine look_ok rfl _ _ rfl rfl Ga.out kk rfl HKM2.out ?_; rw [HH.out])
          | (at_lookup; refine look_v rfl _ _ rfl rfl Gc.out kk rfl HKM2.out ?_; rw [HLK.out])
          | (at_builtin; refine push (E := SetE) 123 64 _ 56 rfl (.tmp 64) (.tmp 71) rfl Tryz.underlying64 info_set rfl (by decide) (by decide) (by decide) (.slice S s.length sc) s (kk, vv, false) _ w4.heap.size 1 rfl rfl S5.out.o X5.out E5.out S5.out.b.size (by have := HLn.out; have := HKL.out; omega) ?_ (fun _ h => h.elim); intro A6 c6 w6 o6 k6 n6; have S7 := Lib.hid (S5.out.push o6 k6); clear o6 k6 n6))
        go_roundg (m - (j + 1))
        case measure => omega
        case rel => exact ⟨j + 1, _, by omega, rfl, by go_num, HST2, by have := HLn.out; simp [Hid]; omega, by simpa using S7⟩
      · have HH := Lib.hid HQ
        obtain ⟨UB, ub, hlk1, hub⟩ := find_pair kk was rs1 O1.out (HHM.out rfl)
        have HLU := Lib.hid hlk1
        have BE := Lib.hid (bytesEqual UB VB ub vb (valOf was kk) (valOf is_ kk) wr (hub.below HS.out.b) (HV.out.below HS.out.b))
        clear HQ hlk1 hub
        generalize valOf is_ kk = vv at *
        generalize valOf was kk = uu at *
        by_cases hv : uu = vv
        · rw [show decide (uu = vv) = true from decide_eq_true hv] at BE HST
          have HST2 : Hid ((ks.take (j + 1)).foldl (stepPA was is_) [] = s) := HST
          clear HST hv
          go_wp2_with (first
            | (at_lookup; refine look_ok rfl _ _ rfl rfl Ga.out kk rfl HKM2.out ?_; rw [HH.out, HLU.out])
            | (at_lookup; refine look_vg rfl _ _ rfl rfl Gb.out kk rfl HKM2.out ?_; rw [HLK.out]))
          refine BE.out.mono ?_
          rintro e w5 ⟨q, rfl, rfl⟩
          have S7 := Lib.hid (HS.out.step (below_drewN (Below.refl _ _) q))
          generalize wr.drewN q = w5 at *
          go_wp2_with fail
          go_roundg (m - (j + 1))
          case measure => omega
          case rel => exact ⟨j + 1, s, by omega, rfl, by go_num, HST2, by have := HLn.out; rw [Hid]; omega, S7⟩
        · rw [show decide (uu = vv) = false from decide_eq_false hv] at BE HST
          have HST2 : Hid ((ks.take (j + 1)).foldl (stepPA was is_) [] = s ++ [(kk, vv, false)]) := HST
          clear HST hv
          go_wp2_with (first
            | (at_lookup; refine look_ok rfl _ _ rfl rfl Ga.out kk rfl HKM2.out ?_; rw [HH.out, HLU.out])
            | (at_lookup; refine look_vg rfl _ _ rfl rfl Gb.out kk rfl HKM2.out ?_; rw [HLK.out]))
          refine BE.out.mono ?_
          rintro e w5 ⟨q, rfl, rfl⟩
          have S7 := Lib.hid (HS.out.step (below_drewN (Below.refl _ _) q))
          have Gd := Lib.hid (Gb.out.keep (below_drewN (Below.refl _ _) q))
          clear HS
          generalize wr.drewN q = w5 at *
          obtain ⟨cap, w4, hcv, hs4, hb4⟩ := BC.out w5
          have B4 := Lib.hid hb4
          have Gc := Lib.hid (Gd.out.keep hb4)
          have E5 := Lib.hid (S7.out.el (below_alloc hb4 (.cells #[Value.slice (some ⟨w5.heap.size, 0, none⟩) kk.length cap, .slice VB vv.length vb, .bool false] 123)) (g := false) (hs4.below (below_alloc (Below.refl _ _) _)) (nw_at w5 0) HV.out)
          have S5 := Lib.hid (S7.out.step (below_alloc hb4 (.cells #[Value.slice (some ⟨w5.heap.size, 0, none⟩) kk.length cap, .slice VB vv.length vb, .bool false] 123)))
          have X5 := Lib.hid (blk_new w4 (.cells #[Value.slice (some ⟨w5.heap.size, 0, none⟩) kk.length cap, .slice VB vv.length vb, .bool false] 123))
          clear hs4 hb4 S7 Ga Gb
          go_wp2_with (first
            | (at_lookup; refine look_v rfl _ _ rfl rfl Gc.out kk rfl HKM2.out ?_; rw [HLK.out])
            | (at_builtin; refine push (E := SetE) 123 64 _ 56 rfl (.tmp 64) (.tmp 71) rfl Tryz.underlying64 info_set rfl (by decide) (by decide) (by decide) (.slice S s.length sc) s (kk, vv, false) _ w4.heap.size 1 rfl rfl S5.out.o X5.out E5.out S5.out.b.size (by have := HLn.out; have := HKL.out; omega) ?_ (fun _ h => h.elim); intro A6 c6 w6 o6 k6 n6; have S7 := Lib.hid (S5.out.push o6 k6); clear o6 k6 n6))
          go_roundg (m - (j + 1))
          case measure => omega
          case rel => exact ⟨j + 1, _, by omega, rfl, by go_num, HST2, by have := HLn.out; simp [Hid]; omega, by simpa using S7⟩
    · obtain rfl : j = m := by omega
      have j1 : ¬ (j : Int) < (j : Int) := by omega
      have htk : ks.take j = ks := List.take_of_length_le (by rw [HM.out]; omega)
      have HF2 := HF.out
      rw [htk] at HF2
      rw [HF2] at HE RN
      clear HF2 htk HF HFS HKM HKK
      have Ga := Lib.hid (G1.out.keep HS.out.b)
      have Oa := Lib.hid (O1.out.below HS.out.b)
      have KY := Lib.hid (keys_nw b1 rs1 wr Ga.out (by have := RL1.out; omega))
      have HKS : Hid (keysOf rs1 = keysL was) := by rw [Hid]; unfold keysOf keysL; rw [Oa.out.fst]
      rw [HKS.out] at KY
      have HKM : Hid (∀ x, x ∈ keysL was → x ∈ was.map Prod.fst) := Lib.hid (fun x hx => (List.mergeSort_perm _ _).mem_iff.1 hx)
      have HKL2 : Hid ((keysL was).length ≤ 200) := by have := LW.out; unfold keysL; simpa [Hid] using this
      have HFS := Lib.hid (fun i hi => take_fold (stepPB is_) [] s (keysL was) i hi)
      clear HKS Oa
      generalize keysL was = kt at *
      go_wp2_with fail
      refine KY.out.mono ?_
      rintro e w5 ⟨TA, tc, rfl, htl, hb5, hn5⟩
      have S5 := Lib.hid (S4.start HS.out hb5 htl hn5)
      have htc := htl.le
      have htc2 := htl.max
      clear htl hb5 hn5 KY Ga HS
      generalize hm2 : kt.length = m2 at *
      have HM2 := Lib.hid hm2
      clear hm2
      generalize hv14 : Value.slice S s.length sc = v14 at *
      clear hv14
      go_wp2_with fail
      go_loopg [77, 14] m2 (fun gk i s14 wr => ∃ (i2 : Nat) (u : List SetD), i2 ≤ m2 ∧ gk = m2 - i2 ∧ i = .int .i64 (i2 : Int) ∧ Hid ((kt.take i2).foldl (stepPB is_) s = u) ∧ Hid (u.length ≤ j + i2) ∧ Hid (S4 w3 wr s14 u TA tc kt))
      case atStart => exact ⟨0, s, by omega, rfl, rfl, rfl, HLn, S5.out⟩
      case round =>
        clear S5
        obtain ⟨i2, u, hj2, rfl, rfl, HF, HLn2, HS⟩ := hrel
        obtain ⟨S2, sc2, rfl⟩ := HS.out.s.o.slice
        by_cases hjt : i2 < m2
        · have j1 : (i2 : Int) < (m2 : Int) := by omega
          have j0 : (0 : Int) ≤ (i2 : Int) := by omega
          have HST := Lib.hid (HFS.out i2 hjt)
          rw [HF.out] at HST
          have hkk : kt[i2]? = some (kt.getD i2 []) := getD_get [] (by rw [HM2.out]; exact hjt)
          obtain ⟨bk, off, raw, rfl, hbk, -, hc, hraw⟩ := HS.out.t.at_ i2 _ hkk
          have hmem := HKM.out _ (List.mem_of_getElem? hkk)
          obtain ⟨kk, hx⟩ : ∃ y, kt.getD i2 [] = y := ⟨_, rfl⟩
          rw [hx] at hmem hraw HST
          cases hraw
          have y0 : wr.cell? ⟨bk, off + i2, none⟩ = some (.string ⟨kk.toArray⟩) := by
            have := hc 0 (by decide)
            rw [show StrE.sz = 1 from rfl, Nat.mul_one, Nat.add_zero] at this
            exact this
          have hkl : kk.length ≤ 140737488355328 := by have := K1.out kk hmem; omega
          have hkm : kk.length ≤ maxLen := by simp only [maxLen]; omega
          have HKM2 := Lib.hid hkm
          have Gb := Lib.hid (G2.out.keep HS.out.s.b)
          have HQ := Q2.out kk
          rw [show stepPB is_ u kk = if hasK is_ kk = true then u else u ++ [(kk, [], true)] from rfl] at HST
          obtain ⟨cap, w4, hcv, hs4, hb4⟩ := bytes_of wr kk hkl
          clear hkm hmem hx hkk hc
          generalize hasK is_ kk = hk at *
          cases hk
          · have HH := Lib.hid HQ
            have HST2 : Hid ((kt.take (i2 + 1)).foldl (stepPB is_) s = u ++ [(kk, [], true)]) := HST
            clear HQ HST
            have E5 := Lib.hid (HS.out.s.el (below_alloc hb4 (.cells #[Value.slice (some ⟨wr.heap.size, 0, none⟩) kk.length cap, .slice none 0 0, .bool true] 123)) (g := true) (hs4.below (below_alloc (Below.refl _ _) _)) (nw_at wr 0) (Bs.nil _ _ _ : Bs w3 none 0 []))
            have S5 := Lib.hid (HS.out.step (below_alloc hb4 (.cells #[Value.slice (some ⟨wr.heap.size, 0, none⟩) kk.length cap, .slice none 0 0, .bool true] 123)))
            have X5 := Lib.hid (blk_new w4 (.cells #[Value.slice (some ⟨wr.heap.size, 0, none⟩) kk.length cap, .slice none 0 0, .bool true] 123))
            clear hs4 hb4
            go_wp2_with (first
              | (at_lookup; refine look_ok rfl _ _ rfl rfl Gb.out kk rfl HKM2.out ?_; rw [HH.out])
              | (at_builtin; refine push (E := SetE) 123 64 _ 56 rfl (.tmp 89) (.tmp 93) rfl Tryz.underlying64 info_set rfl (by decide) (by decide) (by decide) (.slice S2 u.length sc2) u (kk, [], true) _ w4.heap.size 1 rfl rfl S5.out.s.o X5.out E5.out S5.out.s.b.size (by have := HLn2.out; have := HKL2.out; have := HKL.out; omega) ?_ (fun _ h => h.elim); intro A6 c6 w6 o6 k6 n6; have S7 := Lib.hid (S5.out.push o6 k6 n6); clear o6 k6 n6))
            go_roundg (m2 - (i2 + 1))
            case measure => omega
            case rel => exact ⟨i2 + 1, _, by omega, rfl, by go_num, HST2, by have := HLn2.out; simp [Hid]; omega, by simpa using S7⟩
          · have HH := Lib.hid HQ
            have HST2 : Hid ((kt.take (i2 + 1)).foldl (stepPB is_) s = u) := HST
            clear HQ HST hs4 hb4 hcv
            go_wp2_with (first
              | (at_lookup; refine look_ok rfl _ _ rfl rfl Gb.out kk rfl HKM2.out ?_; rw [HH.out]))
            go_roundg (m2 - (i2 + 1))
            case measure => omega
            case rel => exact ⟨i2 + 1, u, by omega, rfl, by go_num, HST2, by have := HLn2.out; rw [Hid]; omega, HS⟩
        · obtain rfl : i2 = m2 := by omega
          have j1 : ¬ (i2 : Int) < (i2 : Int) := by omega
          have htk : kt.take i2 = kt := List.take_of_length_le (by rw [HM2.out]; omega)
          have HF2 := HF.out
          rw [htk] at HF2
          rw [HF2] at HE RN
          have W5 := Lib.hid (below_step W3.out HS.out.s.b)
          have ST := Lib.hid (sortSets_any wr w3.heap.size (.slice S2 u.length sc2) u HS.out.s.o RN.out)
          clear HF2 htk HF HFS
          go_wp2_with fail
          refine ST.out.mono ?_
          rintro e w6 ⟨rfl, o6, k6⟩
          obtain ⟨A9, a9, e9, l9⟩ := o6.lst (fun _ _ h => h)
          have E9 := Lib.hid e9
          have L9 := Lib.hid l9
          have W6 := Lib.hid (below_only W5.out k6 (fun i hi => Nat.le_trans W3.out.size (HS.out.s.o.base_le hi)))
          clear e9 l9 o6 k6
          go_wp2_with fail
          exact bodyPost_ret (v := .tuple #[.slice S2 u.length sc2, .int .i64 0]) (by simp [results, Tryz.results30, go_sem]) rfl ⟨A9, a9, by rw [HE.out, E9.out], by rw [HE.out]; exact L9.out, W6.out⟩
end Go.Proofs.YtafdhccdjbfepaaGreat.Lst
/- states, peerPut, lanePut, turns: the program answers as the document does. -/
namespace Go.Proofs.YtafdhccdjbfepaaGreat.Lst
open Go.RowKit Go.Proofs.YtafdhccdjbfepaaGreat.K Go.Proofs.YtafdhccdjbfepaaGreat.Help Go.Proofs.YtafdhccdjbfepaaGreat.Pfx Go.Proofs.YtafdhccdjbfepaaGreat.Peer
set_option linter.unusedVariables false
set_option maxRecDepth 100000 in
set_option maxHeartbeats 2000000 in
theorem states_any (A : Option Addr) (a : Nat) (l : List RowD) (w : World) (hl : Lst RowE w (fun _ => False) A a l) (hn : l.length ≤ 900) :
    Calls Tryz.prog 24 #[.slice A l.length a] w (Pure w (.bool true)) := by
  have HL := Lib.hid hl
  have R2 := Lib.hid (state_any A a l w hl hn)
  have R3 := Lib.hid (fun w h => refState_any A a l w h hn)
  rw [progState_eq] at R2
  generalize refState l = res at *
  obtain ⟨ps, ls, bo, code⟩ := res
  have SP := Lib.hid (fun A B a b w h h' => samePeers_self A B a b ps w h h')
  have SL := Lib.hid (fun A B a b w h h' => sameLanes_self A B a b ls w h h')
  clear hl hn
  generalize l.length = n at *
  go_enter Tryz.func24, Tryz.ntmps24
  go_wp2_with fail
  refine R2.out.mono ?_
  rintro e w2 ⟨A2, a2, B2, b2, rfl, p2, q2, hb2⟩
  dsimp only at p2 q2 ⊢
  have S2 := hand (hand (hand (hstart (HL.out.below hb2)) hb2) q2) p2
  clear p2 q2 hb2
  go_wp2_with fail
  refine (R3.out w2 S2.out.2.2.2.1).mono ?_
  rintro e w3 ⟨A3, a3, B3, b3, rfl, p3, q3, hb3⟩
  dsimp only at p3 q3 ⊢
  have S3 := hand (hand (hkeep hb3 S2) q3) p3
  clear p3 q3 hb3 S2
  have SP1 := Lib.hid (SP.out A2 A3 a2 a3 w3 S3.out.2.2.1 S3.out.1)
  go_wp2_with fail
  refine SP1.out.mono ?_
  rintro e w4 ⟨rfl, hb4⟩
  have S4 := hkeep hb4 S3
  clear hb4 S3 SP SP1
  have SL1 := Lib.hid (SL.out B2 B3 b2 b3 w4 S4.out.2.2.2.1 S4.out.2.1)
  go_wp2_with fail
  refine SL1.out.mono ?_
  rintro e w5 ⟨rfl, hb5⟩
  have B5 := Lib.hid (below_step S4.out.2.2.2.2.1 hb5)
  clear hb5 S4 SL SL1
  go_wp2_with (go_at_call 21; refine (num_any _ _).mono ?_; rintro e w' ⟨rfl, rfl⟩)
  go_ret
  exact ⟨by first | rfl | simp, B5.out⟩
set_option maxRecDepth 100000 in
set_option maxHeartbeats 2000000 in
theorem peerPut_any (A B : Option Addr) (a b : Nat) (d : PeerD) (w : World) (hl : Bs w A a d.key) (hp : Ps w B b d.ps) :
    Calls Tryz.prog 10 #[peerV A a B b d] w (Pure w (.bool true)) := by
  have P1 := Lib.hid (fun w h h' => putPeer_any A B a b d w h h')
  have P2 := Lib.hid (fun w h h' => refPutPeer_any A B a b d w h h')
  generalize putPeer d = p at *
  obtain ⟨k', v', code⟩ := p
  dsimp only at P1 P2
  obtain ⟨link, key, ps⟩ := d
  unfold peerV at P1 P2 ⊢
  dsimp only at P1 P2 hl hp ⊢
  have hb0 := below_alloc (Below.refl w.heap.size w) (.cells #[.int .i64 link, .slice A key.length a, .slice B ps.length b] 36)
  have S0 := hand (hand (hand (hstart hb0) (hp.below hb0)) (hl.below hb0)) (blk_new w (.cells #[.int .i64 link, .slice A key.length a, .slice B ps.length b] 36))
  clear hl hp hb0
  generalize key.length = kl at *
  generalize ps.length = pl at *
  go_enter Tryz.func10, Tryz.ntmps10
  go_wp2_with fail
  refine (P1.out _ S0.out.2.1 S0.out.2.2.1).mono ?_
  rintro e w1 ⟨v1, v2, rfl, o1, o2, hb1⟩
  obtain ⟨A1, c1, rfl, s1⟩ := o1.bs
  obtain ⟨A2, c2, rfl, s2⟩ := o2.bs
  have hq := below_alloc (Below.refl w1.heap.size w1) (.cells #[.slice A1 k'.length c1, .slice A2 v'.length c2] 47)
  have S1 := hand (hand (hand (hkeep hq (hkeep hb1 S0)) (s1.below hq)) (s2.below hq)) (blk_new w1 (.cells #[.slice A1 k'.length c1, .slice A2 v'.length c2] 47))
  have y0 := (blk_cell S1.out.2.2.2.1 0).trans (b := some (Value.int .i64 link)) rfl
  have y1 := (blk_cell S1.out.2.2.2.1 1).trans (b := some (Value.slice A kl a)) rfl
  have y2 := (blk_cell S1.out.2.2.2.1 2).trans (b := some (Value.slice B pl b)) rfl
  clear o1 o2 s1 s2 hb1 hq S0 P1
  go_wp2_with fail
  refine (P2.out _ S1.out.2.2.2.2.1 S1.out.2.2.2.2.2.1).mono ?_
  rintro e w2 ⟨v1, v2, rfl, o1, o2, hb2⟩
  obtain ⟨A3, c3, rfl, s3⟩ := o1.bs
  obtain ⟨A4, c4, rfl, s4⟩ := o2.bs
  have hq := below_alloc (Below.refl w2.heap.size w2) (.cells #[.slice A3 k'.length c3, .slice A4 v'.length c4] 47)
  have S2 := hand (hand (hand (hkeep hq (hkeep hb2 S1)) (s3.below hq)) (s4.below hq)) (blk_new w2 (.cells #[.slice A3 k'.length c3, .slice A4 v'.length c4] 47))
  clear o1 o2 s3 s4 hb2 hq S1 P2 y0 y1 y2
  have z0 := (blk_cell S2.out.2.2.2.1 0).trans (b := some (Value.slice A1 k'.length c1)) rfl
  have z1 := (blk_cell S2.out.2.2.2.1 1).trans (b := some (Value.slice A2 v'.length c2)) rfl
  have x0 := (blk_cell S2.out.1 0).trans (b := some (Value.slice A3 k'.length c3)) rfl
  have x1 := (blk_cell S2.out.1 1).trans (b := some (Value.slice A4 v'.length c4)) rfl
  have SR := Lib.hid (sameRow A1 A2 A3 A4 c1 c2 c3 c4 k' v' k' v' _ S2.out.2.2.2.2.2.1 S2.out.2.2.2.2.1 S2.out.2.2.1 S2.out.2.1)
  rw [show (decide (k' = k') && decide (v' = v')) = true by simp] at SR
  go_wp2_with fail
  refine SR.out.mono ?_
  rintro e w3 ⟨rfl, hb3⟩
  have B3 := Lib.hid (below_step S2.out.2.2.2.2.2.2.2.2.2.1 hb3)
  clear hb3 S2 SR z0 z1 x0 x1
  go_wp2_with (go_at_call 21; refine (num_any _ _).mono ?_; rintro e w' ⟨rfl, rfl⟩)
  go_ret
  exact ⟨by first | rfl | simp, B3.out⟩
end Go.Proofs.YtafdhccdjbfepaaGreat.Lst
/- A case's box; fits. -/
namespace Go.Proofs.YtafdhccdjbfepaaGreat.Lst
open Go.RowKit Go.Proofs.YtafdhccdjbfepaaGreat.K Go.Proofs.YtafdhccdjbfepaaGreat.Help Go.Proofs.YtafdhccdjbfepaaGreat.Pfx Go.Proofs.YtafdhccdjbfepaaGreat.Peer
set_option linter.unusedVariables false

/-- the box of a case -/
structure CsS (w w' : World) (s0 s1 s2 s3 : Value) : Prop where
  b : w'.heap[w.heap.size]? = some (.cells #[s0, s1, s2, s3] 25 (0, 0))
  below : Below w.heap.size w w'
section
variable {w w' w2 : World} {s0 s1 s2 s3 : Value}
theorem CsS.start (w : World) (s0 s1 s2 s3 : Value) : CsS w (w.alloc (.cells #[s0, s1, s2, s3] 25)) s0 s1 s2 s3 := ⟨blk_new _ _, below_alloc (Below.refl _ _) _⟩
theorem CsS.step (h : CsS w w' s0 s1 s2 s3) (hb : Below w'.heap.size w' w2) : CsS w w2 s0 s1 s2 s3 := ⟨(hb.block _ (blk_lt h.b)).trans h.b, below_step h.below hb⟩
theorem CsS.drewN (h : CsS w w' s0 s1 s2 s3) (n : Nat) : CsS w (w'.drewN n) s0 s1 s2 s3 := ⟨h.b, below_drewN h.below n⟩
theorem CsS.c0 (h : CsS w w' s0 s1 s2 s3) : w'.cell? ⟨w.heap.size, 0, none⟩ = some s0 := (blk_cell h.b 0).trans rfl
theorem CsS.c1 (h : CsS w w' s0 s1 s2 s3) : w'.cell? ⟨w.heap.size, 1, none⟩ = some s1 := (blk_cell h.b 1).trans rfl
theorem CsS.c2 (h : CsS w w' s0 s1 s2 s3) : w'.cell? ⟨w.heap.size, 2, none⟩ = some s2 := (blk_cell h.b 2).trans rfl
theorem CsS.c3 (h : CsS w w' s0 s1 s2 s3) : w'.cell? ⟨w.heap.size, 3, none⟩ = some s3 := (blk_cell h.b 3).trans rfl
end
def FitL (n : Nat) (ps : List PeerD) : Prop := n ≤ 60 → ∀ x, x ∈ ps → x.ps.length ≤ 60
def FitsP (ps ps' : List PeerD) (n n' m m' : Nat) : Prop := n ≤ 60 ∧ n' ≤ 60 ∧ m ≤ 60 ∧ m' ≤ 60 ∧ (∀ x, x ∈ ps → x.ps.length ≤ 60) ∧ (∀ x, x ∈ ps' → x.ps.length ≤ 60)
def RetFit (w : World) (P : Prop) (e : Ending) (w' : World) : Prop := ∃ b : Bool, e = .returned (.bool b) ∧ (b = true → P) ∧ Below w.heap.size w w'
theorem fitL_of {ps : List PeerD} {n k : Nat} (hn : ps.length = n) (h : ∀ i, i < k → (ps.getD i zeroPeer).ps.length ≤ 60) (hk : ¬ (k < n ∧ k < 60)) : FitL n ps := by
  intro h60 x hx
  obtain ⟨i, hi, rfl⟩ := List.mem_iff_getElem.1 hx
  have := h i (by omega)
  simpa [hi] using this
theorem ret_fit {w w' : World} {P : Prop} {b : Bool} (h : b = true → P) (hb : Below w.heap.size w w') : RetFit w P (.returned (.bool b)) w' := ⟨b, rfl, h, hb⟩
set_option maxRecDepth 100000 in
set_option maxHeartbeats 4000000 in
theorem fits_any (A A' B B' : Option Addr) (a a' b b' m m' : Nat) (ps ps' : List PeerD) (w : World) (hp : Lst PeerE w (fun _ => False) A a ps) (hp' : Lst PeerE w (fun _ => False) A' a' ps') :
    Calls Tryz.prog 5 #[caseV A A' B B' a a' b b' ps.length ps'.length m m'] w (RetFit w (FitsP ps ps' ps.length ps'.length m m')) := by
  have HP := Lib.hid hp
  have HP' := Lib.hid hp'
  have h1 := hp.le
  have h2 := hp.max
  have h3 := hp'.le
  have h4 := hp'.max
  clear hp hp'
  have H0 := Lib.hid (CsS.start w (.slice A ps.length a) (.slice A' ps'.length a') (.slice B m b) (.slice B' m' b'))
  have q0 := H0.out.c0
  clear q0
  unfold caseV
  generalize hn : ps.length = n at *
  have HN := Lib.hid hn
  generalize hn' : ps'.length = n' at *
  have HN' := Lib.hid hn'
  clear hn hn'
  go_enter Tryz.func5, Tryz.ntmps5
  go_wp2_with fail
  go_loopg [3] n (fun gk i wr => ∃ k : Nat, k ≤ n ∧ k ≤ 60 ∧ gk = n - k ∧ i = .int .i64 (k : Int) ∧ Hid (∀ i, i < k → (ps.getD i zeroPeer).ps.length ≤ 60) ∧ Hid (CsS w wr (.slice A n a) (.slice A' n' a') (.slice B m b) (.slice B' m' b')))
  case atStart => exact ⟨0, by omega, by omega, rfl, rfl, fun i h => by omega, H0⟩
  case round =>
    clear H0
    obtain ⟨k, hk, hk6, rfl, rfl, HA, HC⟩ := hrel
    have d0 := HC.out.c0
    by_cases hc : k < n ∧ k < 60
    · obtain ⟨hlt, hl6⟩ := hc
      have i1 : (k : Int) < (n : Int) := by omega
      have i2 : (k : Int) < 60 := by omega
      have i0 : (0 : Int) ≤ (k : Int) := by omega
      obtain ⟨bk, off, A1, a1, B1, b1, rfl, hbk, c0, c1, c2, s1, s2⟩ := HP.out.peer k _ (getD_get zeroPeer (by rw [HN.out]; exact hlt))
      obtain ⟨x, hx⟩ : ∃ y, ps.getD k zeroPeer = y := ⟨_, rfl⟩
      rw [hx] at c2
      have HX := Lib.hid hx
      have y2 : wr.cell? ⟨bk, off + k * 3 + 2, none⟩ = some (.slice B1 x.ps.length b1) := (HC.out.below.cell (p := ⟨bk, _, none⟩) hbk).trans c2
      have W1 := Lib.hid HC.out.below
      clear c0 c1 c2 s1 s2 hx hbk
      generalize hxl : x.ps.length = xl at *
      have HXL := Lib.hid hxl
      clear hxl
      by_cases h6 : xl ≤ 60
      · have t6 : ¬ (60 : Int) < (xl : Int) := by omega
        go_wp2_with fail
        go_roundg (n - (k + 1))
        case measure => omega
        case rel => exact ⟨k + 1, by omega, by omega, rfl, by go_num, fun i hi => by
          rcases Nat.lt_or_ge i k with h | h
          · exact HA.out i h
          · have : i = k := by omega
            subst this
            rw [HX.out, HXL.out]; exact h6, HC⟩
      · have t6 : (60 : Int) < (xl : Int) := by omega
        go_wp2_with fail
        go_ret
        exact ret_fit (by simp) W1.out
    · have HF := Lib.hid (fitL_of HN.out HA.out hc)
      clear HA
      have i0 : (0 : Int) ≤ (k : Int) := by omega
      rcases (show (¬ (k : Int) < (n : Int)) ∨ ((k : Int) < (n : Int) ∧ ¬ (k : Int) < 60) by omega) with i1 | ⟨i1, i2⟩
      all_goals
        clear hc
        go_wp2_with fail
        clear d0
        go_loopg [4] n' (fun gk i wr => ∃ k : Nat, k ≤ n' ∧ k ≤ 60 ∧ gk = n' - k ∧ i = .int .i64 (k : Int) ∧ Hid (∀ i, i < k → (ps'.getD i zeroPeer).ps.length ≤ 60) ∧ Hid (CsS w wr (.slice A n a) (.slice A' n' a') (.slice B m b) (.slice B' m' b')))
        case atStart => exact ⟨0, by omega, by omega, rfl, rfl, fun i h => by omega, HC⟩
        case round =>
          clear HC i0 i1
          obtain ⟨j, hj, hj6, rfl, rfl, HA, HC⟩ := hrel
          have d1 := HC.out.c1
          by_cases hc : j < n' ∧ j < 60
          · obtain ⟨hlt, hl6⟩ := hc
            have i1 : (j : Int) < (n' : Int) := by omega
            have i2 : (j : Int) < 60 := by omega
            have i0 : (0 : Int) ≤ (j : Int) := by omega
            obtain ⟨bk, off, A1, a1, B1, b1, rfl, hbk, c0, c1, c2, s1, s2⟩ := HP'.out.peer j _ (getD_get zeroPeer (by rw [HN'.out]; exact hlt))
            obtain ⟨x, hx⟩ : ∃ y, ps'.getD j zeroPeer = y := ⟨_, rfl⟩
            rw [hx] at c2
            have HX := Lib.hid hx
            have y2 : wr.cell? ⟨bk, off + j * 3 + 2, none⟩ = some (.slice B1 x.ps.length b1) := (HC.out.below.cell (p := ⟨bk, _, none⟩) hbk).trans c2
            have W1 := Lib.hid HC.out.below
            clear c0 c1 c2 s1 s2 hx hbk
            generalize hxl : x.ps.length = xl at *
            have HXL := Lib.hid hxl
            clear hxl
            by_cases h6 : xl ≤ 60
            · have t6 : ¬ (60 : Int) < (xl : Int) := by omega
              go_wp2_with fail
              go_roundg (n' - (j + 1))
              case measure => omega
              case rel => exact ⟨j + 1, by omega, by omega, rfl, by go_num, fun i hi => by
                rcases Nat.lt_or_ge i j with h | h
                · exact HA.out i h
                · have : i = j := by omega
                  subst this
                  rw [HX.out, HXL.out]; exact h6, HC⟩
            · have t6 : (60 : Int) < (xl : Int) := by omega
              go_wp2_with fail
              go_ret
              exact ret_fit (by simp) W1.out
          · have HF2 := Lib.hid (fitL_of HN'.out HA.out hc)
            have W1 := Lib.hid HC.out.below
            have d0 := HC.out.c0
            have d2 := HC.out.c2
            have d3 := HC.out.c3
            clear HA
            have i0 : (0 : Int) ≤ (j : Int) := by omega
            rcases (show (¬ (j : Int) < (n' : Int)) ∨ ((j : Int) < (n' : Int) ∧ ¬ (j : Int) < 60) by omega) with i1 | ⟨i1, i2⟩
            all_goals
              clear hc
              rcases Nat.lt_or_ge 60 n with g0 | g0
              · first
                | (exfalso; omega)
                | (have e0 : decide ((n : Int) ≤ 60) = false := by rw [decide_eq_false_iff_not]; omega
                   clear g0
                   go_wp2_with fail
                   go_ret
                   exact ret_fit (by simp) W1.out)
              · first
                | (exfalso; omega)
                | (have e0 : (n : Int) ≤ 60 := by omega
                   rcases Nat.lt_or_ge 60 n' with g1 | g1
                   · first
                     | (exfalso; omega)
                     | (have e1 : decide ((n' : Int) ≤ 60) = false := by rw [decide_eq_false_iff_not]; omega
                        clear g1
                        go_wp2_with fail
                        go_ret
                        exact ret_fit (by simp) W1.out)
                   · first
                     | (exfalso; omega)
                     | (have e1 : (n' : Int) ≤ 60 := by omega
                        rcases Nat.lt_or_ge 60 m with g2 | g2
                        · first
                          | (exfalso; omega)
                          | (have e2 : decide ((m : Int) ≤ 60) = false := by rw [decide_eq_false_iff_not]; omega
                             clear g2
                             go_wp2_with fail
                             go_ret
                             exact ret_fit (by simp) W1.out)
                        · first
                          | (exfalso; omega)
                          | (have e2 : (m : Int) ≤ 60 := by omega
                             rcases Nat.lt_or_ge 60 m' with g3 | g3
                             · first
                               | (exfalso; omega)
                               | (have e3 : decide ((m' : Int) ≤ 60) = false := by rw [decide_eq_false_iff_not]; omega
                                  clear g3
                                  go_wp2_with fail
                                  go_ret
                                  exact ret_fit (by simp) W1.out)
                             · first
                               | (exfalso; omega)
                               | (have e3 : (m' : Int) ≤ 60 := by omega
                                  have HR : Hid (FitsP ps ps' n n' m m') := Lib.hid ⟨g0, g1, g2, g3, HF.out g0, HF2.out g1⟩
                                  clear g0 g1 g2 g3
                                  go_wp2_with fail
                                  go_ret
                                  exact ret_fit (fun _ => HR.out) W1.out))))
end Go.Proofs.YtafdhccdjbfepaaGreat.Lst
/- lanePut, turns: the program answers as the document does. -/
namespace Go.Proofs.YtafdhccdjbfepaaGreat.Lst
open Go.RowKit Go.Proofs.YtafdhccdjbfepaaGreat.K Go.Proofs.YtafdhccdjbfepaaGreat.Help Go.Proofs.YtafdhccdjbfepaaGreat.Pfx Go.Proofs.YtafdhccdjbfepaaGreat.Peer
set_option linter.unusedVariables false
set_option maxRecDepth 100000 in
set_option maxHeartbeats 2000000 in
theorem lanePut_any (A : Option Addr) (a : Nat) (d : LaneD) (w : World) (hl : Bs w A a d.key) (hd : LaneB d) :
    Calls Tryz.prog 12 #[laneV A a d] w (Pure w (.bool true)) := by
  have P1 := Lib.hid (fun w h => putLane_any A a d w h hd)
  have P2 := Lib.hid (fun w h => refPutLane_any A a d w h hd)
  generalize putLane d = p at *
  obtain ⟨k', v', code⟩ := p
  dsimp only at P1 P2
  obtain ⟨key, side, cur, next, sc, ceil, sec, nano⟩ := d
  unfold laneV at P1 P2 ⊢
  dsimp only at P1 P2 hl ⊢
  have hb0 := below_alloc (Below.refl w.heap.size w) (.cells #[.slice A key.length a, .int .i64 side, .int .i64 cur, .int .i64 next, .int .u64 (sc : Int), .int .u64 (ceil : Int), .int .i64 sec, .int .i64 nano] 43)
  have S0 := hand (hand (hstart hb0) (hl.below hb0)) (blk_new w (.cells #[.slice A key.length a, .int .i64 side, .int .i64 cur, .int .i64 next, .int .u64 (sc : Int), .int .u64 (ceil : Int), .int .i64 sec, .int .i64 nano] 43))
  clear hl hd hb0
  generalize key.length = kl at *
  go_enter Tryz.func12, Tryz.ntmps12
  go_wp2_with fail
  refine (P1.out _ S0.out.2.1).mono ?_
  rintro e w1 ⟨v1, v2, rfl, o1, o2, hb1⟩
  obtain ⟨A1, c1, rfl, s1⟩ := o1.bs
  obtain ⟨A2, c2, rfl, s2⟩ := o2.bs
  have hq := below_alloc (Below.refl w1.heap.size w1) (.cells #[.slice A1 k'.length c1, .slice A2 v'.length c2] 47)
  have S1 := hand (hand (hand (hkeep hq (hkeep hb1 S0)) (s1.below hq)) (s2.below hq)) (blk_new w1 (.cells #[.slice A1 k'.length c1, .slice A2 v'.length c2] 47))
  have y0 := (blk_cell S1.out.2.2.2.1 0).trans (b := some (Value.slice A kl a)) rfl
  have y1 := (blk_cell S1.out.2.2.2.1 1).trans (b := some (Value.int .i64 side)) rfl
  have y2 := (blk_cell S1.out.2.2.2.1 2).trans (b := some (Value.int .i64 cur)) rfl
  have y3 := (blk_cell S1.out.2.2.2.1 3).trans (b := some (Value.int .i64 next)) rfl
  have y4 := (blk_cell S1.out.2.2.2.1 4).trans (b := some (Value.int .u64 (sc : Int))) rfl
  have y5 := (blk_cell S1.out.2.2.2.1 5).trans (b := some (Value.int .u64 (ceil : Int))) rfl
  have y6 := (blk_cell S1.out.2.2.2.1 6).trans (b := some (Value.int .i64 sec)) rfl
  have y7 := (blk_cell S1.out.2.2.2.1 7).trans (b := some (Value.int .i64 nano)) rfl
  clear o1 o2 s1 s2 hb1 hq S0 P1
  go_wp2_with fail
  refine (P2.out _ S1.out.2.2.2.2.1).mono ?_
  rintro e w2 ⟨v1, v2, rfl, o1, o2, hb2⟩
  obtain ⟨A3, c3, rfl, s3⟩ := o1.bs
  obtain ⟨A4, c4, rfl, s4⟩ := o2.bs
  have hq := below_alloc (Below.refl w2.heap.size w2) (.cells #[.slice A3 k'.length c3, .slice A4 v'.length c4] 47)
  have S2 := hand (hand (hand (hkeep hq (hkeep hb2 S1)) (s3.below hq)) (s4.below hq)) (blk_new w2 (.cells #[.slice A3 k'.length c3, .slice A4 v'.length c4] 47))
  clear o1 o2 s3 s4 hb2 hq S1 P2 y0 y1 y2 y3 y4 y5 y6 y7
  have z0 := (blk_cell S2.out.2.2.2.1 0).trans (b := some (Value.slice A1 k'.length c1)) rfl
  have z1 := (blk_cell S2.out.2.2.2.1 1).trans (b := some (Value.slice A2 v'.length c2)) rfl
  have x0 := (blk_cell S2.out.1 0).trans (b := some (Value.slice A3 k'.length c3)) rfl
  have x1 := (blk_cell S2.out.1 1).trans (b := some (Value.slice A4 v'.length c4)) rfl
  have SR := Lib.hid (sameRow A1 A2 A3 A4 c1 c2 c3 c4 k' v' k' v' _ S2.out.2.2.2.2.2.1 S2.out.2.2.2.2.1 S2.out.2.2.1 S2.out.2.1)
  rw [show (decide (k' = k') && decide (v' = v')) = true by simp] at SR
  go_wp2_with fail
  refine SR.out.mono ?_
  rintro e w3 ⟨rfl, hb3⟩
  have B3 := Lib.hid (below_step S2.out.2.2.2.2.2.2.2.2.1 hb3)
  clear hb3 S2 SR z0 z1 x0 x1
  go_wp2_with (go_at_call 21; refine (num_any _ _).mono ?_; rintro e w' ⟨rfl, rfl⟩)
  go_ret
  exact ⟨by first | rfl | simp, B3.out⟩
set_option maxRecDepth 100000 in
set_option maxHeartbeats 2000000 in
theorem turns_any (A A' B B' : Option Addr) (a a' b b' : Nat) (ps ps' : List PeerD) (ls ls' : List LaneD) (w : World) (hp : Lst PeerE w (fun _ => False) A a ps) (hp' : Lst PeerE w (fun _ => False) A' a' ps') (hq : Lst LaneE w (fun _ => False) B b ls) (hq' : Lst LaneE w (fun _ => False) B' b' ls')
    (n1 : ps.length ≤ 100) (n2 : ps'.length ≤ 100) (n3 : ls.length ≤ 100) (n4 : ls'.length ≤ 100) :
    Calls Tryz.prog 13 #[caseV A A' B B' a a' b b' ps.length ps'.length ls.length ls'.length] w (Pure w (.bool true)) := by
  have ST := Lib.hid (fun (w : World) hp hp' hq hq' => sets_any A A' B B' a a' b b' ps ps' ls ls' w hp hp' hq hq' n1 n2 n3 n4)
  have RF := Lib.hid (fun (w : World) hp hp' hq hq' => refSets_any A A' B B' a a' b b' ps ps' ls ls' w hp hp' hq hq' n1 n2 n3 n4)
  rw [progQ_eq] at ST
  generalize refSets ps ps' ls ls' = res at *
  obtain ⟨l, code⟩ := res
  have SS := Lib.hid (fun A B a b w h h' => sameSets_self A B a b l w h h')
  have hb0 := below_alloc (Below.refl w.heap.size w) (.cells #[.slice A ps.length a, .slice A' ps'.length a', .slice B ls.length b, .slice B' ls'.length b'] 25)
  have S0 := hand (hand (hand (hand (hand (hstart hb0) (hq'.below hb0)) (hq.below hb0)) (hp'.below hb0)) (hp.below hb0)) (blk_new w (.cells #[.slice A ps.length a, .slice A' ps'.length a', .slice B ls.length b, .slice B' ls'.length b'] 25))
  clear hp hp' hq hq' hb0 n1 n2 n3 n4
  unfold caseV
  generalize ps.length = m1 at *
  generalize ps'.length = m2 at *
  generalize ls.length = m3 at *
  generalize ls'.length = m4 at *
  go_enter Tryz.func13, Tryz.ntmps13
  go_wp2_with fail
  refine (ST.out _ S0.out.2.1 S0.out.2.2.1 S0.out.2.2.2.1 S0.out.2.2.2.2.1).mono ?_
  rintro e w1 ⟨A1, c1, rfl, l1, hb1⟩
  dsimp only at l1 ⊢
  have S1 := hand (hkeep hb1 S0) l1
  have y0 := (blk_cell S1.out.2.1 0).trans (b := some (Value.slice A m1 a)) rfl
  have y1 := (blk_cell S1.out.2.1 1).trans (b := some (Value.slice A' m2 a')) rfl
  have y2 := (blk_cell S1.out.2.1 2).trans (b := some (Value.slice B m3 b)) rfl
  have y3 := (blk_cell S1.out.2.1 3).trans (b := some (Value.slice B' m4 b')) rfl
  clear l1 hb1 S0 ST
  go_wp2_with fail
  refine (RF.out _ S1.out.2.2.1 S1.out.2.2.2.1 S1.out.2.2.2.2.1 S1.out.2.2.2.2.2.1).mono ?_
  rintro e w2 ⟨A2, c2, rfl, l2, hb2⟩
  dsimp only at l2 ⊢
  have S2 := hand (hkeep hb2 S1) l2
  clear l2 hb2 S1 RF y0 y1 y2 y3
  have SS1 := Lib.hid (SS.out A1 A2 c1 c2 w2 S2.out.2.1 S2.out.1)
  go_wp2_with fail
  refine SS1.out.mono ?_
  rintro e w3 ⟨rfl, hb3⟩
  have B3 := Lib.hid (below_step S2.out.2.2.2.2.2.2.2.1 hb3)
  clear hb3 S2 SS SS1
  go_wp2_with (go_at_call 21; refine (num_any _ _).mono ?_; rintro e w' ⟨rfl, rfl⟩)
  go_ret
  exact ⟨by first | rfl | simp, B3.out⟩
end Go.Proofs.YtafdhccdjbfepaaGreat.Lst
/- rowsPlace. -/
namespace Go.Proofs.YtafdhccdjbfepaaGreat.Lst
open Go.RowKit Go.Proofs.YtafdhccdjbfepaaGreat.K Go.Proofs.YtafdhccdjbfepaaGreat.Help Go.Proofs.YtafdhccdjbfepaaGreat.Pfx Go.Proofs.YtafdhccdjbfepaaGreat.Peer
set_option linter.unusedVariables false
/-- a row whose key and value were laid down -/
def ItR (w : World) (N : Nat → Prop) (raw : List Value) (p : KIt × KIt) : Prop := raw = [.slice (some ⟨p.1.1, 0, none⟩) p.1.2.1 p.1.2.2, .slice (some ⟨p.2.1, 0, none⟩) p.2.2.1 p.2.2.2]
def ItE : Elem (KIt × KIt) where
  sz := 2
  R := ItR
  len := fun h => by unfold ItR at h; rw [h]; rfl
  one := fun h u hu => by
    unfold ItR at h
    rw [h] at hu
    simp only [List.mem_cons, List.not_mem_nil, or_false] at hu
    rcases hu with rfl | rfl <;> rfl
  below := fun h _ => h
  only := fun h _ _ => h
  reno := fun h _ => h
theorem itR_mk (w : World) (N : Nat → Prop) (gk nk ck gv nv cv : Nat) : ItE.R w N [.slice (some ⟨gk, 0, none⟩) nk ck, .slice (some ⟨gv, 0, none⟩) nv cv] ((gk, nk, ck), (gv, nv, cv)) := rfl
def OkI (w : World) (x : KIt) : Prop := Mk w x.1 x.2.1 ∧ x.2.1 + 40 ≤ x.2.2 ∧ x.2.2 ≤ 9223372036854775807 ∧ x.2.1 ≤ 1000000
def flatI (items : List (KIt × KIt)) : List KIt := items.flatMap (fun p => [p.1, p.2])
theorem flatI_mem {items : List (KIt × KIt)} {p : KIt × KIt} (h : p ∈ items) : p.1 ∈ flatI items ∧ p.2 ∈ flatI items := by
  unfold flatI
  exact ⟨List.mem_flatMap.2 ⟨p, h, by simp⟩, List.mem_flatMap.2 ⟨p, h, by simp⟩⟩
theorem flatI_push (items : List (KIt × KIt)) (p : KIt × KIt) : flatI (items ++ [p]) = flatI items ++ [p.1] ++ [p.2] := by unfold flatI; simp
theorem flatI_last (it : List (KIt × KIt)) (x y : KIt) : x ∈ flatI (it ++ [(x, y)]) ∧ y ∈ flatI (it ++ [(x, y)]) := by
  have h : (x, y) ∈ it ++ [(x, y)] := List.mem_append.2 (.inr (List.mem_singleton.2 rfl))
  exact flatI_mem h
def AllI (w : World) (items : List (KIt × KIt)) : Prop := ∀ x, x ∈ flatI items → OkI w x
theorem AllI.keep {w w' : World} {items : List (KIt × KIt)} (h : AllI w items) (hb : Below w.heap.size w w') : AllI w' items := fun x hx => ⟨(h x hx).1.keep hb, (h x hx).2⟩
theorem rise_one {lo hi : Nat} {it : List KIt} (h : Rise lo hi it) {x y : KIt} (hx : x ∈ it) (hy : y ∈ it) (e : x.1 = y.1) : x = y := by
  obtain ⟨i, hi, rfl⟩ := List.mem_iff_getElem.1 hx
  obtain ⟨j, hj, rfl⟩ := List.mem_iff_getElem.1 hy
  have hp := List.pairwise_iff_getElem.1 h.1
  rcases Nat.lt_trichotomy i j with h1 | h1 | h1
  · have := hp i j hi hj h1; omega
  · subst h1; rfl
  · have := hp j i hj hi h1; omega
theorem AllI.turn {w w' : World} {lo hi : Nat} {items : List (KIt × KIt)} (h : AllI w items) (hr : Rise lo hi (flatI items)) {x0 : KIt} (hx : x0 ∈ flatI items) (k : Only w w' (fun i => i = x0.1)) (m : Mk w' x0.1 x0.2.1) : AllI w' items := fun x hm => by
  by_cases e : x.1 = x0.1
  · have := rise_one hr hm hx e
    subst this
    exact ⟨m, (h x hm).2⟩
  · exact ⟨(h x hm).1.only k e, (h x hm).2⟩
/-- turning keeps the rows themselves -/
theorem OwnL.turnI {w w' : World} {B g : Nat} {v : Value} {items : List (KIt × KIt)} (h : OwnL ItE 47 w (fun _ => False) B v items) (k : Only w w' (fun i => i = g)) {n : Nat} (m : Mk w g n) : OwnL ItE 47 w' (fun _ => False) B v items := by
  obtain ⟨raws, hl, ho, hm, hR⟩ := h
  refine ⟨raws, hl, row_keep ho k (fun i hi e => ?_), hm, fun i x raw hx hw => hR i x raw hx hw⟩
  obtain ⟨cs, hc⟩ := OwnL.blk (E := ItE) ⟨raws, hl, ho, hm, hR⟩ hi
  obtain ⟨l, _, cs', h2, _⟩ := m
  rw [e, h2] at hc
  injection hc with hc
  injection hc with _ hc _
  exact absurd hc (by decide)
theorem itRows {w : World} {A : Option Addr} {c : Nat} {items : List (KIt × KIt)} (h : Lst ItE w (fun _ => False) A c items) (ha : AllI w items) : ∃ l : List RowD, l.length = items.length ∧ Lst RowE w (fun _ => False) A c l := by
  obtain ⟨l, h1, h2, _⟩ := Lst.of_each (w := w) (E := RowE) (N := fun _ => False) (A := A) h.le h.max (fun _ _ => True) (fun i hi => by
    obtain ⟨bk, off, raw, e, hlt, _, hc, hr⟩ := h.at_ i items[i] (List.getElem?_eq_getElem hi)
    have hm := flatI_mem (List.getElem_mem hi)
    have k1 := ha _ hm.1
    have k2 := ha _ hm.2
    obtain ⟨k, e1, t1⟩ := k1.1.bs (c := items[i].1.2.2) (by have := k1.2.1; omega) (by have := k1.2.2.2; omega)
    obtain ⟨v, e2, t2⟩ := k2.1.bs (c := items[i].2.2.2) (by have := k2.2.1; omega) (by have := k2.2.2.2; omega)
    have hr' : raw = [.slice (some ⟨items[i].1.1, 0, none⟩) items[i].1.2.1 items[i].1.2.2, .slice (some ⟨items[i].2.1, 0, none⟩) items[i].2.2.1 items[i].2.2.2] := hr
    exact ⟨(k, v), bk, off, raw, e, hlt, id, hc, ⟨some ⟨items[i].1.1, 0, none⟩, items[i].1.2.2, some ⟨items[i].2.1, 0, none⟩, items[i].2.2.2, by rw [hr', e1, e2], Bs.bsn t1, Bs.bsn t2⟩, trivial⟩)
  exact ⟨l, h1, h2⟩
theorem Lst.itAt {w : World} {A : Option Addr} {c i : Nat} {items : List (KIt × KIt)} (h : Lst ItE w (fun _ => False) A c items) (hi : i < items.length) : ∃ bk off, A = some ⟨bk, off, none⟩ ∧ bk < w.heap.size ∧ w.cell? ⟨bk, off + i * 2, none⟩ = some (.slice (some ⟨items[i].1.1, 0, none⟩) items[i].1.2.1 items[i].1.2.2) ∧ w.cell? ⟨bk, off + i * 2 + 1, none⟩ = some (.slice (some ⟨items[i].2.1, 0, none⟩) items[i].2.2.1 items[i].2.2.2) := by
  obtain ⟨bk, off, raw, e, hlt, _, hc, hr⟩ := h.at_ i items[i] (List.getElem?_eq_getElem hi)
  have hr' : raw = [.slice (some ⟨items[i].1.1, 0, none⟩) items[i].1.2.1 items[i].1.2.2, .slice (some ⟨items[i].2.1, 0, none⟩) items[i].2.2.1 items[i].2.2.2] := hr
  subst hr'
  exact ⟨bk, off, e, hlt, hc 0 (by decide), hc 1 (by decide)⟩
theorem reads_mk {w : World} {x y : KIt} (hx : OkI w x) (hy : OkI w y) : Calls Tryz.prog 23 #[.agg #[.slice (some ⟨x.1, 0, none⟩) x.2.1 x.2.2, .slice (some ⟨y.1, 0, none⟩) y.2.1 y.2.2]] w (Pure w (.bool true)) := by
  obtain ⟨k, e1, t1⟩ := hx.1.bs (c := x.2.2) (by have := hx.2.1; omega) (by have := hx.2.2.2; omega)
  obtain ⟨v, e2, t2⟩ := hy.1.bs (c := y.2.2) (by have := hy.2.1; omega) (by have := hy.2.2.2; omega)
  have := reads_any _ _ _ _ k v w t1 t2
  rwa [e1, e2] at this
theorem reads_mk2 (w : World) (gk nk ck gv nv cv : Nat) (hx : OkI w (gk, nk, ck)) (hy : OkI w (gv, nv, cv)) : Calls Tryz.prog 23 #[.agg #[.slice (some ⟨gk, 0, none⟩) nk ck, .slice (some ⟨gv, 0, none⟩) nv cv]] w (Pure w (.bool true)) := reads_mk (x := (gk, nk, ck)) (y := (gv, nv, cv)) hx hy
theorem Mk.own {w w' : World} {B g n : Nat} {v : Value} {it : List (KIt × KIt)} (h : Mk w g n) (o : OwnL ItE 47 w (fun _ => False) B v it) (k : Only w w' (fun i => v.ownBlock = some i)) : Mk w' g n := h.only k (fun e => by
  obtain ⟨cs, hc⟩ := o.blk e
  obtain ⟨l, _, cs', h2, _⟩ := h
  rw [h2] at hc
  injection hc with hc
  injection hc with _ hc _
  exact absurd hc (by decide))
theorem Mk.ne {w : World} {g b n : Nat} {cs : Array Value} {t : TypeId} {fr : Nat × Nat} (h : Mk w g n) (hb : w.heap[b]? = some (.cells cs t fr)) (ht : t ≠ 5) : b ≠ g := fun e => by
  obtain ⟨l, _, cs', h2, _⟩ := h
  rw [e, h2] at hb
  injection hb with hb
  injection hb with _ hb _
  exact ht hb.symm
theorem Lst.itUc {w w' : World} {A : Option Addr} {c : Nat} {items : List (KIt × KIt)} (h : Lst ItE w (fun _ => False) A c items) (u : UC w w') : Lst ItE w' (fun _ => False) A c items := ⟨h.le, h.max, fun i x hx => by
  obtain ⟨hi, ex⟩ := List.getElem?_eq_some_iff.1 hx
  subst ex
  obtain ⟨bk, off, e, hlt, c0, c1⟩ := h.itAt hi
  refine ⟨bk, off, _, e, Nat.lt_of_lt_of_le hlt u.size, id, fun j hj => ?_, rfl⟩
  have hj2 : j < 2 := hj
  match j, hj2 with
  | 0, _ => exact u.keep c0 notU8_slice
  | 1, _ => exact u.keep c1 notU8_slice⟩
theorem size_alloc2 (w : World) (o : Obj) : (w.alloc o).heap.size = w.heap.size + 1 := by simp
theorem boxed {w : World} {b : Nat} {z0 z1 u v : Value} {t : TypeId} (h : w.heap[b]? = some (.cells #[z0, z1] t (0, 0))) : ((w.setCell ⟨b, 0, none⟩ u).setCell ⟨b, 1, none⟩ v).heap[b]? = some (.cells #[u, v] t (0, 0)) ∧ Only w ((w.setCell ⟨b, 0, none⟩ u).setCell ⟨b, 1, none⟩ v) (fun i => i = b) := by
  refine ⟨?_, ((Only.refl w (fun i => i = b)).setCell (p := ⟨b, 0, none⟩) (.inl rfl) u).setCell (p := ⟨b, 1, none⟩) (.inl rfl) v⟩
  have h1 := blk_set (blk_set h 0 u) 1 v
  rw [h1]
  simp
theorem states_it (V : Option Addr) (vc : Nat) (it : List (KIt × KIt)) (w : World) (h : Lst ItE w (fun _ => False) V vc it) (h2 : AllI w it) (hn : it.length ≤ 900) : Calls Tryz.prog 24 #[.slice V it.length vc] w (Pure w (.bool true)) := by
  obtain ⟨l, e, hl⟩ := itRows h h2
  have := states_any V vc l w hl (by rw [e]; exact hn)
  rwa [e] at this
set_option maxRecDepth 100000 in
set_option maxHeartbeats 4000000 in
theorem rowsPlace_any (A : Option Addr) (a : Nat) (l : List RowD) (w : World) (hl : Lst RowE w (fun _ => False) A a l) (hn : l.length ≤ 900) (hk : ∀ x, x ∈ l → x.1.length ≤ 1000000 ∧ x.2.length ≤ 1000000) :
    Calls Tryz.prog 7 #[.slice A l.length a] w (Pure w (.bool true)) := by
  have HL := Lib.hid hl
  have HK := Lib.hid hk
  have h1 := hl.le
  have h2 := hl.max
  clear hl hk
  generalize hm : l.length = n at *
  have HN := Lib.hid hm
  clear hm
  go_enter Tryz.func7, Tryz.ntmps7
  go_wp2_with fail
  go_loopg [3, 4, 5] n (fun gk s3 v i wr => ∃ (k : Nat) (it : List (KIt × KIt)), k ≤ n ∧ gk = n - k ∧ s3 = .bool true ∧ i = .int .i64 (k : Int) ∧ Hid (it.length = k) ∧ Hid (OwnL ItE 47 wr (fun _ => False) w.heap.size v it) ∧ Hid (AllI wr it) ∧ Hid (Rise w.heap.size wr.heap.size (flatI it)) ∧ Hid (Below w.heap.size w wr))
  case atStart => exact ⟨0, [], by omega, rfl, rfl, rfl, rfl, OwnL.nil _ _ _ _ _, Lib.hid (fun x h => by cases h), Rise.nil _ _, Below.refl _ _⟩
  case round =>
    obtain ⟨k, it, hk, rfl, rfl, rfl, HIL, HO, HAI, HRI, HB⟩ := hrel
    obtain ⟨V, vc, rfl⟩ := HO.out.slice
    rw [HIL.out] at HO ⊢
    by_cases hlt : k < n
    · have i1 : (k : Int) < (n : Int) := by omega
      have i0 : (0 : Int) ≤ (k : Int) := by omega
      have hkl : k < l.length := by rw [HN.out]; exact hlt
      obtain ⟨bk, off, A1, a1, B1, b1, rfl, hbk, d0, d1, s1, s2⟩ := (HL.out.below HB.out).row k l[k] (List.getElem?_eq_getElem hkl)
      have hkk := HK.out l[k] (List.getElem_mem hkl)
      obtain ⟨⟨xk, xv⟩, hx⟩ : ∃ y, l[k] = y := ⟨_, rfl⟩
      rw [hx] at d0 d1 s1 s2 hkk
      dsimp only at d0 d1 s1 s2 hkk
      have HBK := Lib.hid hbk
      have HD : Hid (Below wr.heap.size wr wr.drew) := Lib.hid (below_drewN (Below.refl _ _) 1)
      have LA := Lib.hid (fun w h => laid_any A1 a1 xk w h hkk.1)
      have S1 := Lib.hid s1.1
      have z0 : wr.drew.cell? ⟨bk, off + k * 2, none⟩ = some (.slice A1 xk.length a1) := d0
      have z1 : wr.drew.cell? ⟨bk, off + k * 2 + 1, none⟩ = some (.slice B1 xv.length b1) := d1
      have LB := Lib.hid (fun w h => laid_any B1 b1 xv w h hkk.2)
      have S2 := Lib.hid s2.1
      have HKK := Lib.hid hkk
      clear s1 s2 hbk hx hkl hkk
      generalize hxk : xk.length = nk at *
      generalize hxv : xv.length = nv at *
      have HXK := Lib.hid hxk
      have HXV := Lib.hid hxv
      clear hxk hxv
      go_wp2_with fail
      go_region_held3 (fun w' => w'.cell? ⟨bk, off + k * 2, none⟩ = some (.slice A1 nk a1) ∧ w'.cell? ⟨bk, off + k * 2 + 1, none⟩ = some (.slice B1 nv b1)) (first | (with_reducible exact ⟨g0, g1⟩) | (with_reducible exact ⟨f0, f1⟩) | (with_reducible exact ⟨z0, z1⟩) | exact ⟨(below_alloc HB3.out _).cell (p := ⟨bk, _, none⟩) HBK.out |>.trans d0, (below_alloc HB3.out _).cell (p := ⟨bk, _, none⟩) HBK.out |>.trans d1⟩ | exact ⟨(below_alloc HB2.out _).cell (p := ⟨bk, _, none⟩) HBK.out |>.trans d0, (below_alloc HB2.out _).cell (p := ⟨bk, _, none⟩) HBK.out |>.trans d1⟩ | exact ⟨(below_alloc HD.out _).cell (p := ⟨bk, _, none⟩) HBK.out |>.trans d0, (below_alloc HD.out _).cell (p := ⟨bk, _, none⟩) HBK.out |>.trans d1⟩ | exact ⟨cell_ne (cell_ne g0 (fun h => HNB.out h.1)) (fun h => HNB.out h.1), cell_ne (cell_ne g1 (fun h => HNB.out h.1)) (fun h => HNB.out h.1)⟩)
        (first
        | (have hg2 := HB2.out; go_at_call 22; refine (LB.out _ (S2.out.below (by first | exact HB2.out | exact below_alloc HB2.out _))).mono ?_; rintro e w3 ⟨gv, cv, rfl, hv1, hv2, hv3, hv4, hb3⟩; have HB3c : Hid (w2.heap.size ≤ gv) := Lib.hid (by first | exact hv4 | (simp only [size_alloc2] at hv4; omega)); have V3 := Lib.hid (And.intro hv1 (And.intro hv2 (And.intro HB3c.out hv3))); have HB23 : Hid (Below w2.heap.size w2 w3) := Lib.hid (below_step (by first | exact Below.refl _ _ | exact below_alloc (Below.refl _ _) _) hb3); have HB3 : Hid (Below wr.heap.size wr w3) := Lib.hid (below_step HB2.out HB23.out); have g0 : w3.cell? ⟨bk, off + k * 2, none⟩ = some (.slice A1 nk a1) := (HB3.out.cell (p := ⟨bk, _, none⟩) HBK.out).trans d0; have g1 : w3.cell? ⟨bk, off + k * 2 + 1, none⟩ = some (.slice B1 nv b1) := (HB3.out.cell (p := ⟨bk, _, none⟩) HBK.out).trans d1; (try have X3 : Hid (w3.heap[w2.heap.size]? = some (.cells #[.slice none 0 0, .slice none 0 0] 47)) := Lib.hid ((hb3.block w2.heap.size (blk_lt (blk_new w2 (.cells #[.slice none 0 0, .slice none 0 0] 47)))).trans (blk_new w2 (.cells #[.slice none 0 0, .slice none 0 0] 47)))); (try have HNB : Hid (¬ bk = w2.heap.size) := Lib.hid (fun e => by have := HBK.out; have := HB2.out.size; have := X3.out; omega)); (try have HNB : Hid (¬ bk = wr.heap.size) := Lib.hid (fun e => by have := HBK.out; have := X2.out; omega)); (try have X3 := Lib.hid ((HB23.out.block _ (blk_lt X2.out)).trans X2.out)); (try have k0 := (blk_cell X3.out 0).trans (b := some (Value.slice none 0 0)) rfl); (try have k1 := (blk_cell X3.out 1).trans (b := some (Value.slice none 0 0)) rfl); (try have k2 := blk_free X3.out 0); (try have k3 := blk_free X3.out 1); clear hg2 hv1 hv2 hv3 hv4 hb3)
        | (go_at_call 22; refine (LA.out _ (S1.out.below (by first | exact HD.out | exact below_alloc HD.out _))).mono ?_; rintro e w2 ⟨gk, ck, rfl, hk1, hk2, hk3, hk4, hb2⟩; (try have X2 : Hid (w2.heap[wr.heap.size]? = some (.cells #[.slice none 0 0, .slice none 0 0] 47)) := Lib.hid ((hb2.block wr.drew.heap.size (blk_lt (blk_new wr.drew (.cells #[.slice none 0 0, .slice none 0 0] 47)))).trans (blk_new wr.drew (.cells #[.slice none 0 0, .slice none 0 0] 47)))); have V2 := Lib.hid (And.intro hk1 (And.intro hk2 (And.intro (Nat.le_trans (Below.size (by first | exact HD.out | exact below_alloc HD.out _)) hk4) hk3))); have HB2 : Hid (Below wr.heap.size wr w2) := Lib.hid (below_step (by first | exact HD.out | exact below_alloc HD.out _) hb2); have f0 : w2.cell? ⟨bk, off + k * 2, none⟩ = some (.slice A1 nk a1) := (HB2.out.cell (p := ⟨bk, _, none⟩) HBK.out).trans d0; have f1 : w2.cell? ⟨bk, off + k * 2 + 1, none⟩ = some (.slice B1 nv b1) := (HB2.out.cell (p := ⟨bk, _, none⟩) HBK.out).trans d1; clear hk1 hk2 hk3 hk4 hb2))
      all_goals
        have MK2 : Hid (Mk w2 gk nk) := Lib.hid ⟨xk, HXK.out, V2.out.2.2.2⟩
        have MV3 : Hid (Mk w3 gv nv) := Lib.hid ⟨xv, HXV.out, V3.out.2.2.2⟩
        have HFIN : Hid (∀ wf : World, Below w3.heap.size w3 wf → Below wr.heap.size wr wf ∧ Mk wf gk nk ∧ Mk wf gv nv) := Lib.hid (fun wf h => ⟨below_step HB3.out h, (MK2.out.keep HB23.out).keep h, MV3.out.keep h⟩)
        have HFIS : Hid (∀ (wf : World) (b : Nat) (cs : Array Value), w3.heap[b]? = some (.cells cs 47 (0, 0)) → wr.heap.size ≤ b → Only w3 wf (fun i => i = b) → Below wr.heap.size wr wf ∧ Mk wf gk nk ∧ Mk wf gv nv) := Lib.hid (fun wf b cs hx hb k => ⟨below_only HB3.out k (fun i hi => by rw [hi]; exact hb), (MK2.out.keep HB23.out).only k (fun e => (MK2.out.keep HB23.out).ne hx (by decide) e.symm), MV3.out.only k (fun e => MV3.out.ne hx (by decide) e.symm)⟩)
        clear MK2 MV3
      all_goals
        have GG : Hid (wr.heap.size ≤ gk ∧ gk < gv) := Lib.hid ⟨V2.out.2.2.1, by have := V2.out.2.2.2.lt; have := HB3c.out; omega⟩
        have OKK : Hid (nk + 40 ≤ ck ∧ ck ≤ 9223372036854775807 ∧ nv + 40 ≤ cv ∧ cv ≤ 9223372036854775807) := Lib.hid ⟨V2.out.1, V2.out.2.1, V3.out.1, V3.out.2.1⟩
        have SZ2 := Lib.hid HB2.out.size
        have SZ3 := Lib.hid HB3.out.size
        clear V2 V3 HB3c
        first
        | (have hz : w3.heap[w2.heap.size]? = some (.cells #[.slice none 0 0, .slice none 0 0] 47 (0, 0)) := X3.out
           have XB := boxed (u := .slice (some ⟨gk, 0, none⟩) nk ck) (v := .slice (some ⟨gv, 0, none⟩) nv cv) hz
           obtain ⟨h1, h2, h3⟩ := HFIS.out _ _ _ hz SZ2.out XB.2
           have X4 := Lib.hid XB.1
           have HR := Lib.hid h1
           have MK := Lib.hid h2
           have MV := Lib.hid h3
           have NBX := SZ2
           clear hz XB h1 h2 h3 X3 HFIN HFIS SZ2 SZ3 HB23 HB3 f0 f1 g0 g1 z0 z1 d0 d1 k0 k1 k2 k3 HNB
           generalize (w3.setCell ⟨w2.heap.size, 0, none⟩ (.slice (some ⟨gk, 0, none⟩) nk ck)).setCell ⟨w2.heap.size, 1, none⟩ (.slice (some ⟨gv, 0, none⟩) nv cv) = wf at *
           generalize w2.heap.size = bx at *)
        | (have hz : w3.heap[wr.heap.size]? = some (.cells #[.slice none 0 0, .slice none 0 0] 47 (0, 0)) := X3.out
           have XB := boxed (u := .slice (some ⟨gk, 0, none⟩) nk ck) (v := .slice (some ⟨gv, 0, none⟩) nv cv) hz
           obtain ⟨h1, h2, h3⟩ := HFIS.out _ _ _ hz (Nat.le_refl _) XB.2
           have X4 := Lib.hid XB.1
           have HR := Lib.hid h1
           have MK := Lib.hid h2
           have MV := Lib.hid h3
           clear hz XB h1 h2 h3 X3 X2 HFIN HFIS SZ2 SZ3 HB23 HB3 HB2 f0 f1 g0 g1 z0 z1 d0 d1 k0 k1 k2 k3 HNB
           generalize (w3.setCell ⟨wr.heap.size, 0, none⟩ (.slice (some ⟨gk, 0, none⟩) nk ck)).setCell ⟨wr.heap.size, 1, none⟩ (.slice (some ⟨gv, 0, none⟩) nv cv) = wf at *
           obtain ⟨bx, hbx⟩ : ∃ bx, bx = wr.heap.size := ⟨_, rfl⟩
           have NBX : Hid (wr.heap.size ≤ bx) := Lib.hid (by rw [hbx]; exact Nat.le_refl _)
           rw [← hbx] at X4 ⊢
           clear hbx)
        | (obtain ⟨h1, h2, h3⟩ := HFIN.out _ (below_alloc (Below.refl w3.heap.size w3) (.cells #[.slice (some ⟨gk, 0, none⟩) nk ck, .slice (some ⟨gv, 0, none⟩) nv cv] 47))
           have X4 := Lib.hid (blk_new w3 (.cells #[.slice (some ⟨gk, 0, none⟩) nk ck, .slice (some ⟨gv, 0, none⟩) nv cv] 47))
           have HR := Lib.hid h1
           have MK := Lib.hid h2
           have MV := Lib.hid h3
           have NBX := SZ3
           clear h1 h2 h3 HFIN HFIS SZ2 SZ3 HB23 HB3 f0 f1 g0 g1 z0 z1 d0 d1
           generalize w3.alloc (.cells #[.slice (some ⟨gk, 0, none⟩) nk ck, .slice (some ⟨gv, 0, none⟩) nv cv] 47) = wf at *
           generalize w3.heap.size = bx at *)
      all_goals
        have hb5 := below_alloc (Below.refl wf.heap.size wf) (.cells #[.slice (some ⟨gk, 0, none⟩) nk ck, .slice (some ⟨gv, 0, none⟩) nv cv] 47)
        have X5 := Lib.hid (blk_new wf (.cells #[.slice (some ⟨gk, 0, none⟩) nk ck, .slice (some ⟨gv, 0, none⟩) nv cv] 47))
        have X4' := Lib.hid (blk_alloc X4.out (.cells #[.slice (some ⟨gk, 0, none⟩) nk ck, .slice (some ⟨gv, 0, none⟩) nv cv] 47))
        have HR5 := Lib.hid (below_step HR.out hb5)
        have O5 := Lib.hid (HO.out.below HR5.out)
        have MK5 := Lib.hid (MK.out.keep hb5)
        have MV5 := Lib.hid (MV.out.keep hb5)
        have W5 := Lib.hid (below_step HB.out HR5.out)
        have LTV := Lib.hid (fun i (h : (Value.slice V k vc).ownBlock = some i) => HO.out.lt h)
        have SZR := Lib.hid (⟨HB.out.size, HR.out.size⟩ : w.heap.size ≤ wr.heap.size ∧ wr.heap.size ≤ wf.heap.size)
        have y0 := (blk_cell X4.out 0).trans (b := some (Value.slice (some ⟨gk, 0, none⟩) nk ck)) rfl
        have y1 := (blk_cell X4.out 1).trans (b := some (Value.slice (some ⟨gv, 0, none⟩) nv cv)) rfl
        clear hb5
        go_wp2_with (at_builtin; refine push (E := ItE) 47 26 _ 48 rfl (.tmp 32) (.tmp 34) rfl Tryz.underlying26 info_row rfl (by decide) (by decide) (by decide) (.slice V k vc) it ((gk, nk, ck), (gv, nv, cv)) [.slice (some ⟨gk, 0, none⟩) nk ck, .slice (some ⟨gv, 0, none⟩) nv cv] wf.heap.size 1 rfl rfl O5.out X5.out (itR_mk _ _ gk nk ck gv nv cv) W5.out.size (by rw [HIL.out]; omega) ?_ (fun _ h => h.elim); intro A6 c6 w6 o6 k6 n6; rw [HIL.out] at o6 n6 ⊢; have O6 := Lib.hid o6; have MK6 := Lib.hid (MK5.out.own O5.out k6); have MV6 := Lib.hid (MV5.out.own O5.out k6); have AI6 := Lib.hid (fun x hx => (⟨((HAI.out.keep HR5.out) x hx).1.own O5.out k6, (HAI.out x hx).2⟩ : OkI w6 x)); have X6 := Lib.hid (k6.blk X4'.out (fun e => by have := LTV.out _ e; have := NBX.out; omega)); have W6 := Lib.hid (below_only W5.out k6 (fun i hi => O5.out.base_le hi)); have SZ6 := Lib.hid k6.size; have x0 := (blk_cell X6.out 0).trans (b := some (Value.slice (some ⟨gk, 0, none⟩) nk ck)) rfl; have x1 := (blk_cell X6.out 1).trans (b := some (Value.slice (some ⟨gv, 0, none⟩) nv cv)) rfl; clear o6 k6 n6)
        have AI7 : Hid (AllI w6 (it ++ [((gk, nk, ck), (gv, nv, cv))])) := Lib.hid (fun x hx => by
          rw [flatI_push] at hx
          rcases List.mem_append.1 hx with hx | hx
          · rcases List.mem_append.1 hx with hx | hx
            · exact AI6.out x hx
            · rw [List.mem_singleton] at hx
              subst hx
              exact ⟨MK6.out, OKK.out.1, OKK.out.2.1, HKK.out.1⟩
          · rw [List.mem_singleton] at hx
            subst hx
            exact ⟨MV6.out, OKK.out.2.2.1, OKK.out.2.2.2, HKK.out.2⟩)
        have RI7 : Hid (Rise w.heap.size w6.heap.size (flatI (it ++ [((gk, nk, ck), (gv, nv, cv))]))) := Lib.hid (by
          rw [flatI_push]
          have h3 := MV6.out.lt
          exact (HRI.out.push (n := nk) (c := ck) (hi2 := gk + 1) GG.out.1 (Nat.le_trans SZR.out.1 GG.out.1) (Nat.lt_succ_self _) (Nat.le_succ_of_le GG.out.1)).push (n := nv) (c := cv) GG.out.2 (Nat.le_trans (Nat.le_trans SZR.out.1 GG.out.1) (Nat.le_of_lt GG.out.2)) h3 (by have := GG.out.2; omega))
        have FM : Hid ((gk, nk, ck) ∈ flatI (it ++ [((gk, nk, ck), (gv, nv, cv))]) ∧ (gv, nv, cv) ∈ flatI (it ++ [((gk, nk, ck), (gv, nv, cv))])) := Lib.hid (flatI_last it (gk, nk, ck) (gv, nv, cv))
        have IL7 : Hid ((it ++ [((gk, nk, ck), (gv, nv, cv))]).length = k + 1) := Lib.hid (by rw [List.length_append, HIL.out]; rfl)
        generalize it ++ [((gk, nk, ck), (gv, nv, cv))] = it2 at *
        have RD : Hid (∀ w', AllI w' it2 → Calls Tryz.prog 23 #[.agg #[.slice (some ⟨gk, 0, none⟩) nk ck, .slice (some ⟨gv, 0, none⟩) nv cv]] w' (Pure w' (.bool true))) := Lib.hid (fun w' h => reads_mk2 w' gk nk ck gv nv cv (h (gk, nk, ck) FM.out.1) (h (gv, nv, cv) FM.out.2))
        have RD1 := Lib.hid (RD.out w6 AI7.out)
        have GVW : Hid (w.heap.size ≤ gv) := Lib.hid (Nat.le_trans (Nat.le_trans SZR.out.1 GG.out.1) (Nat.le_of_lt GG.out.2))
        clear AI6 MK6 MV6 MK5 MV5 MK MV X4 X4' X5 HR HR5 O5 W5 LTV NBX GG OKK HB HO HAI y0 y1 S1 S2 LA LB HD HKK HBK SZR SZ6
        go_wp2_with fail
        (with_reducible refine RD1.out.mono ?_)
        rintro e w7 ⟨rfl, hb7⟩
        have O7 := Lib.hid (O6.out.below hb7)
        have AI8 := Lib.hid (AI7.out.keep hb7)
        have X7 := Lib.hid ((hb7.block _ (blk_lt X6.out)).trans X6.out)
        have W7 := Lib.hid (below_step W6.out hb7)
        have RI8 := Lib.hid (RI7.out.more hb7.size)
        have TU := Lib.hid (turn_any gv nv cv w7 (AI8.out _ FM.out.2).1 (AI8.out _ FM.out.2).2.2.2)
        have MV7 := Lib.hid (AI8.out _ FM.out.2).1
        have x1 := (blk_cell X7.out 1).trans (b := some (Value.slice (some ⟨gv, 0, none⟩) nv cv)) rfl
        clear x0 hb7 RD1 O6 AI7 X6 W6 RI7
        go_wp2_with fail
        (with_reducible refine TU.out.mono ?_)
        rintro e w8 ⟨rfl, m8, u8, k8⟩
        have O8 := Lib.hid (O7.out.turnI k8 MV7.out)
        have AI9 : Hid (AllI w8 it2) := Lib.hid (AI8.out.turn RI8.out FM.out.2 k8 m8)
        have X8 := Lib.hid (k8.blk X7.out (MV7.out.ne X7.out (by decide)))
        have W8 := Lib.hid (below_only W7.out k8 (fun i hi => by rw [hi]; exact GVW.out))
        have RI9 := Lib.hid (RI8.out.more k8.size)
        have RD2 := Lib.hid (RD.out w8 AI9.out)
        have x0 := (blk_cell X8.out 0).trans (b := some (Value.slice (some ⟨gk, 0, none⟩) nk ck)) rfl
        have x1 := (blk_cell X8.out 1).trans (b := some (Value.slice (some ⟨gv, 0, none⟩) nv cv)) rfl
        clear m8 u8 k8 TU O7 AI8 X7 W7 RI8 MV7
        go_wp2_with fail
        (with_reducible refine RD2.out.mono ?_)
        rintro e w9 ⟨rfl, hb9⟩
        have O9 := Lib.hid (O8.out.below hb9)
        have AI10 := Lib.hid (AI9.out.keep hb9)
        have W9 := Lib.hid (below_step W8.out hb9)
        have RI10 := Lib.hid (RI9.out.more hb9.size)
        clear hb9 RD2 O8 AI9 X8 W8 RI9 x0 x1
        go_wp2_with fail
        go_roundg (n - (k + 1))
        case measure => omega
        case rel => exact ⟨k + 1, it2, by omega, rfl, rfl, by go_num, IL7, O9, AI10, RI10, W9⟩
    · obtain rfl : k = n := by omega
      have i1 : ¬ (k : Int) < (k : Int) := by omega
      obtain ⟨V', vc', e', li⟩ := HO.out.lst (fun _ _ h => h)
      rw [HIL.out] at e'
      cases e'
      have LI := Lib.hid li
      have v1 := li.le
      have v2 := li.max
      rw [HIL.out] at v1
      have ST := Lib.hid (fun w' (h : Lst ItE w' (fun _ => False) V vc it) (h2 : AllI w' it) => states_it V vc it w' h h2 (by rw [HIL.out]; omega))
      rw [HIL.out] at ST
      have ST1 := Lib.hid (ST.out wr LI.out HAI.out)
      clear li HO HL HK HN
      go_wp2_with fail
      (with_reducible refine ST1.out.mono ?_)
      rintro e w2 ⟨rfl, hb2⟩
      have L2 := Lib.hid (LI.out.below hb2)
      have A2 := Lib.hid (HAI.out.keep hb2)
      have B2 := Lib.hid (below_step HB.out hb2)
      have RI := HRI
      clear hb2 ST1 LI HAI HB HRI
      go_wp2_with fail
      go_loopg [10] k (fun gk i wr => ∃ z : Nat, z ≤ k ∧ gk = k - z ∧ i = .int .i64 (z : Int) ∧ Hid (Lst ItE wr (fun _ => False) V vc it) ∧ Hid (AllI wr it) ∧ Hid (Below w.heap.size w wr))
      case atStart => exact ⟨0, by omega, rfl, rfl, L2, A2, B2⟩
      case round =>
        clear L2 A2 B2
        obtain ⟨z, hz, rfl, rfl, HLI, HAI, HB⟩ := hrel
        by_cases hlt : z < k
        · have j1 : (z : Int) < (k : Int) := by omega
          have j0 : (0 : Int) ≤ (z : Int) := by omega
          have hzl : z < it.length := by rw [HIL.out]; exact hlt
          obtain ⟨b, o, rfl, hbb, y0, y1⟩ := HLI.out.itAt hzl
          have FM := Lib.hid (flatI_mem (List.getElem_mem hzl)).2
          obtain ⟨⟨xk, ⟨gv, nv, cv⟩⟩, hx⟩ : ∃ p, it[z] = p := ⟨_, rfl⟩
          rw [hx] at y1 FM
          dsimp only at y1 FM
          have OK := HAI.out _ FM.out
          have TU := Lib.hid (turn_any gv nv cv wr OK.1 OK.2.2.2)
          have GW := Lib.hid (RI.out.2 _ FM.out).1
          clear y0 hbb hx hzl OK
          go_wp2_with fail
          (with_reducible refine TU.out.mono ?_)
          rintro e w3 ⟨rfl, m3, u3, k3⟩
          have L3 := Lib.hid (HLI.out.itUc u3)
          have A3 : Hid (AllI w3 it) := Lib.hid (HAI.out.turn RI.out FM.out k3 m3)
          have B3 := Lib.hid (below_only HB.out k3 (fun i hi => by rw [hi]; exact GW.out))
          clear m3 u3 k3 TU y1
          go_wp2_with fail
          go_roundg (k - (z + 1))
          case measure => omega
          case rel => exact ⟨z + 1, by omega, rfl, by go_num, L3, A3, B3⟩
        · obtain rfl : z = k := by omega
          have j1 : ¬ (z : Int) < (z : Int) := by omega
          have ST1 := Lib.hid (ST.out wr HLI.out HAI.out)
          go_wp2_with fail
          (with_reducible refine ST1.out.mono ?_)
          rintro e w3 ⟨rfl, hb3⟩
          have L3 := Lib.hid (HLI.out.below hb3)
          have A3 := Lib.hid (HAI.out.keep hb3)
          have B3 := Lib.hid (below_step HB.out hb3)
          clear hb3 ST1 HLI HAI HB ST
          go_wp2_with fail
          go_loopg [3, 12] z (fun gk s3 i wr => ∃ q : Nat, q ≤ z ∧ gk = z - q ∧ s3 = .bool true ∧ i = .int .i64 (q : Int) ∧ Hid (Below w3.heap.size w3 wr))
          case atStart => exact ⟨0, by omega, rfl, rfl, rfl, Below.refl _ _⟩
          case round =>
            obtain ⟨q, hq, rfl, rfl, rfl, HB⟩ := hrel
            by_cases hlt : q < z
            · have j2 : (q : Int) < (z : Int) := by omega
              have j0 : (0 : Int) ≤ (q : Int) := by omega
              have hql : q < it.length := by rw [HIL.out]; exact hlt
              obtain ⟨b, o, rfl, hbb, y0, y1⟩ := (L3.out.below HB.out).itAt hql
              have FM := Lib.hid (flatI_mem (List.getElem_mem hql))
              obtain ⟨⟨⟨gk, nk, ck⟩, ⟨gv, nv, cv⟩⟩, hx⟩ : ∃ p, it[q] = p := ⟨_, rfl⟩
              rw [hx] at y0 y1 FM
              dsimp only at y0 y1 FM
              have AQ := Lib.hid (A3.out.keep HB.out)
              have OK1 := AQ.out _ FM.out.1
              have OK2 := AQ.out _ FM.out.2
              have M1 := Lib.hid (mkd_any gk nk ck wr OK1.1 OK1.2.2.2 OK1.2.1 OK1.2.2.1)
              have M2 := Lib.hid (fun q => mkd_any gv nv cv (wr.drewN q) (OK2.1.keep (below_drewN (Below.refl _ _) q)) OK2.2.2.2 OK2.2.1 OK2.2.2.1)
              clear hbb hx hql OK1 OK2 AQ FM
              go_wp2_with fail
              (with_reducible refine M1.out.mono ?_)
              rintro e w4 ⟨q4, rfl, rfl⟩
              have M3 := Lib.hid (M2.out q4)
              have B4 := Lib.hid (below_drewN HB.out q4)
              have y2 : (wr.drewN q4).cell? ⟨b, o + q * 2 + 1, none⟩ = some (.slice (some ⟨gv, 0, none⟩) nv cv) := y1
              clear M1 M2 y0 y1
              generalize wr.drewN q4 = w4 at *
              go_wp2_with fail
              (with_reducible refine M3.out.mono ?_)
              rintro e w5 ⟨q5, rfl, rfl⟩
              have B5 := Lib.hid (below_drewN B4.out q5)
              clear M3 y2
              go_wp2_with fail
              go_roundg (z - (q + 1))
              case measure => omega
              case rel => exact ⟨q + 1, by omega, rfl, rfl, by go_num, B5⟩
            · obtain rfl : q = z := by omega
              have j2 : ¬ (q : Int) < (q : Int) := by omega
              have BF := Lib.hid (below_step B3.out HB.out)
              go_wp2_with fail
              go_ret
              exact ⟨by first | rfl | simp, BF.out⟩
end Go.Proofs.YtafdhccdjbfepaaGreat.Lst
