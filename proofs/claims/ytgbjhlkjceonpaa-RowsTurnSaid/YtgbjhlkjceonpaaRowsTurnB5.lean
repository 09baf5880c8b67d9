/- Contracts of the functions that RowsTurn reaches: part 5 of 5. -/
import Derived.Test.YtgbjhlkjceonpaaRowsTurnB4
/- The walk of turned. -/
namespace Go.Proofs.Ytgbjhlkjceonpaa.Lst
open Go.RowKit Go.Proofs.Ytgbjhlkjceonpaa.K Go.Proofs.Ytgbjhlkjceonpaa.Help Go.Proofs.Ytgbjhlkjceonpaa.Pfx Go.Proofs.Ytgbjhlkjceonpaa.Peer
set_option linter.unusedVariables false

def hitB (s : List SetD) (k : List UInt8) : Bool := s.any (fun x => decide (k = x.1))
def keepT (l : List RowD) (s : List SetD) : List RowD := l.filter (fun r => !hitB s r.1)
def doneT (s : List SetD) : List RowD := (s.filter (fun x => !x.2.2)).map (fun x => (x.1, x.2.1))
def turnedL (l : List RowD) (s : List SetD) : List RowD := keepT l s ++ doneT s
theorem hitB_step (s : List SetD) (k : List UInt8) (j : Nat) (hj : j < s.length) : hitB (s.take (j + 1)) k = (hitB (s.take j) k || decide (k = (s.getD j zeroSet).1)) := by
  have e : s.getD j zeroSet = s[j] := by simp [hj]
  rw [List.take_succ_eq_append_getElem hj, e]
  unfold hitB
  rw [List.any_append]
  simp
theorem keepT_step (l : List RowD) (s : List SetD) (k : Nat) (hk : k < l.length) : keepT (l.take (k + 1)) s = keepT (l.take k) s ++ if hitB s (l.getD k zR).1 = true then [] else [l.getD k zR] := by
  have e : l.getD k zR = l[k] := by simp [hk]
  rw [List.take_succ_eq_append_getElem hk, e]
  unfold keepT
  rw [List.filter_append]
  congr 1
  by_cases h : hitB s l[k].1 = true
  · rw [if_pos h]; simp [h]
  · rw [if_neg h]; simp [h]
theorem doneT_step (s : List SetD) (j : Nat) (hj : j < s.length) : doneT (s.take (j + 1)) = doneT (s.take j) ++ if (s.getD j zeroSet).2.2 = true then [] else [((s.getD j zeroSet).1, (s.getD j zeroSet).2.1)] := by
  have e : s.getD j zeroSet = s[j] := by simp [hj]
  rw [List.take_succ_eq_append_getElem hj, e]
  unfold doneT
  rw [List.filter_append, List.map_append]
  congr 1
  by_cases h : s[j].2.2 = true
  · rw [if_pos h]; simp [h]
  · rw [if_neg h]; simp [h]
theorem keepT_len (l : List RowD) (s : List SetD) (k : Nat) : (keepT (l.take k) s).length ≤ k := by
  unfold keepT
  exact Nat.le_trans (List.length_filter_le _ _) (by rw [List.length_take]; omega)
theorem doneT_len (s : List SetD) (k : Nat) : (doneT (s.take k)).length ≤ k := by
  unfold doneT
  rw [List.length_map]
  exact Nat.le_trans (List.length_filter_le _ _) (by rw [List.length_take]; omega)
set_option maxRecDepth 100000 in
set_option maxHeartbeats 4000000 in
theorem turned_any (A B : Option Addr) (a b : Nat) (l : List RowD) (s : List SetD) (w : World) (hp : Lst RowE w (fun _ => False) A a l) (hq : Lst SetE w (fun _ => False) B b s) (hn : l.length ≤ 1000) (hm : s.length ≤ 1000) :
    Calls Try.prog 32 #[.slice A l.length a, .slice B s.length b] w (RetL RowE w (turnedL l s)) := by
  have HP := Lib.hid hp
  have HQ := Lib.hid hq
  have h1 := hp.le
  have h2 := hp.max
  have h3 := hq.le
  have h4 := hq.max
  clear hp hq
  generalize hr : turnedL l s = res
  have HR := Lib.hid hr
  clear hr
  generalize hnn : l.length = n at *
  have HN := Lib.hid hnn
  generalize hmm : s.length = m at *
  have HM := Lib.hid hmm
  clear hnn hmm
  go_enter Try.func32, Try.ntmps32
  go_wp2_with fail
  go_loopg [6, 5] n (fun gk i s5 wr => ∃ (k : Nat) (u : List RowD), k ≤ n ∧ gk = n - k ∧ i = .int .i64 (k : Int) ∧ Hid (keepT (l.take k) s = u) ∧ Hid (OwnL RowE 29 wr (fun _ => False) w.heap.size s5 u) ∧ Hid (Below w.heap.size w wr))
  case atStart => exact ⟨0, [], by omega, rfl, rfl, rfl, OwnL.nil _ _ _ _ _, Below.refl _ _⟩
  case round =>
    obtain ⟨k, u, hk, rfl, rfl, HU, HO, HW⟩ := hrel
    obtain ⟨AM, cM, rfl⟩ := HO.out.slice
    have HUL : Hid (u.length ≤ k) := by rw [Hid, ← HU.out]; exact keepT_len l s k
    by_cases hlt : k < n
    · have i1 : (k : Int) < (n : Int) := by omega
      have i0 : (0 : Int) ≤ (k : Int) := by omega
      have HT := Lib.hid (keepT_step l s k (by rw [HN.out]; exact hlt))
      rw [HU.out] at HT
      obtain ⟨bk, off, A1, a1, B1, b1, rfl, hbk, c0, c1, s1, s2⟩ := HP.out.row k _ (getD_get zR (by rw [HN.out]; exact hlt))
      obtain ⟨⟨xk, xv⟩, hx⟩ : ∃ y, l.getD k zR = y := ⟨_, rfl⟩
      rw [hx] at c0 c1 s1 s2 HT
      dsimp only at c0 c1 s1 s2 HT
      have C0 := Lib.hid c0
      have C1 := Lib.hid c1
      have S1 := Lib.hid s1
      have S2 := Lib.hid s2
      have HBK := Lib.hid hbk
      clear c0 c1 s1 s2 hx hbk HU
      generalize hxl : xk.length = xl at *
      have HXL := Lib.hid hxl
      clear hxl
      obtain ⟨wo, hwo⟩ : ∃ wo : World, wo = wr := ⟨_, rfl⟩
      rw [← hwo]
      rw [← hwo] at HO HW
      clear hwo
      go_wp2_with fail
      go_loopg [8, 7] m (fun gk i s7 wr => ∃ (j : Nat) (bb : Bool), j ≤ m ∧ gk = m - j ∧ i = .int .i64 (j : Int) ∧ s7 = .bool bb ∧ Hid (hitB (s.take j) xk = bb) ∧ Hid (OwnL RowE 29 wr (fun _ => False) w.heap.size (.slice AM u.length cM) u) ∧ Hid (Below w.heap.size w wr))
      case atStart => exact ⟨0, false, by omega, rfl, rfl, rfl, rfl, HO, HW⟩
      case round =>
        clear HO HW
        obtain ⟨j, bb, hj, rfl, rfl, rfl, HBB, HO, HW⟩ := hrel
        by_cases hjl : j < m
        · have j1 : (j : Int) < (m : Int) := by omega
          have j0 : (0 : Int) ≤ (j : Int) := by omega
          have HBT := Lib.hid (hitB_step s xk j (by rw [HM.out]; exact hjl))
          rw [HBB.out] at HBT
          have HG0 := Lib.hid (Since.drew (Below.refl wr.heap.size wr))
          obtain ⟨bk2, off2, A2, a2, B2, b2, rfl, hbk2, d0, -, -, u1, -⟩ := HQ.out.set j _ (getD_get zeroSet (by rw [HM.out]; exact hjl))
          have y0 := Since.cell ((HW.out.cell (p := ⟨bk, _, none⟩) HBK.out).trans C0.out) (Nat.lt_of_lt_of_le HBK.out HW.out.size)
          have z0 := Since.cell ((HW.out.cell (p := ⟨bk2, _, none⟩) hbk2).trans d0) (Nat.lt_of_lt_of_le hbk2 HW.out.size)
          have V := Lib.hid (Since.bytes (S1.out.1.below HW.out) (u1.1.below HW.out))
          rw [HXL.out] at V
          clear d0 u1 hbk2
          generalize decide (xk = (s.getD j zeroSet).1) = t at *
          generalize (s.getD j zeroSet).1.length = q1 at *
          cases bb
          · have HB2 : Hid (hitB (s.take (j + 1)) xk = t) := by rw [Hid, HBT.out]; rfl
            go_wp2_with fail
            refine wp_region_quiet_cls (Since wr) (by kernel_rfl) (by kernel_rfl) HG0.out ?_
            repeat (go_big_quiet_step ((go_at_call 42; exact calls_cls Since.step (V.out _))))
            refine wpQuiet_nil ?_
            intro _ hw'
            obtain ⟨nq, hw''⟩ := hw'
            subst hw''
            have HO2 := Lib.hid (HO.out.below nq.ok)
            have HW2 := Lib.hid (below_step HW.out nq.ok)
            go_wp2_with fail
            go_roundg (m - (j + 1))
            case measure => omega
            case rel => exact ⟨j + 1, t, by omega, rfl, by go_num, rfl, HB2, HO2, HW2⟩
          · have HB2 : Hid (hitB (s.take (j + 1)) xk = true) := by rw [Hid, HBT.out]; rfl
            go_wp2_with fail
            refine wp_region_quiet_cls (Since wr) (by kernel_rfl) (by kernel_rfl) HG0.out ?_
            repeat (go_big_quiet_step ((go_at_call 42; exact calls_cls Since.step (V.out _))))
            refine wpQuiet_nil ?_
            intro _ hw'
            obtain ⟨nq, hw''⟩ := hw'
            subst hw''
            have HO2 := Lib.hid (HO.out.below nq.ok)
            have HW2 := Lib.hid (below_step HW.out nq.ok)
            go_wp2_with fail
            go_roundg (m - (j + 1))
            case measure => omega
            case rel => exact ⟨j + 1, true, by omega, rfl, by go_num, rfl, HB2, HO2, HW2⟩
        · obtain rfl : j = m := by omega
          have j1 : ¬ (j : Int) < (j : Int) := by omega
          have htj : s.take j = s := List.take_of_length_le (by rw [HM.out]; omega)
          rw [htj] at HBB
          rw [HBB.out] at HT
          clear htj
          cases bb
          · have HT2 : Hid (keepT (l.take (k + 1)) s = u ++ [(xk, xv)]) := HT
            have y0 : wr.cell? ⟨bk, off + k * 2, none⟩ = some (.slice A1 xl a1) := (HW.out.cell (p := ⟨bk, _, none⟩) HBK.out).trans C0.out
            have y1 : wr.cell? ⟨bk, off + k * 2 + 1, none⟩ = some (.slice B1 xv.length b1) := (HW.out.cell (p := ⟨bk, _, none⟩) HBK.out).trans C1.out
            have hb2 := below_alloc (Below.refl wr.heap.size wr) (.cells #[Value.slice A1 xl a1, .slice B1 xv.length b1] 29)
            have HOA := Lib.hid (HO.out.below hb2)
            have HWA := Lib.hid (below_step HW.out hb2)
            have HX1 := Lib.hid (blk_new wr (.cells #[Value.slice A1 xl a1, .slice B1 xv.length b1] 29))
            have hxa := old_el (E := RowE) (x := (xk, xv)) (raw := [Value.slice A1 xk.length a1, .slice B1 xv.length b1]) ⟨A1, a1, B1, b1, rfl, S1.out, S2.out⟩ HWA.out HO.out (Nat.le_refl _)
            rw [HXL.out] at hxa
            have HXA := Lib.hid hxa
            clear hb2 hxa HT
            go_wp2_with (at_builtin; refine push (E := RowE) 29 74 _ 48 rfl (.tmp 38) (.tmp 43) rfl Try.underlying74 info_row rfl (by decide) (by decide) (by decide) (.slice AM u.length cM) u (xk, xv) [Value.slice A1 xl a1, .slice B1 xv.length b1] wr.heap.size 1 rfl rfl HOA.out HX1.out HXA.out HWA.out.size (by have := HUL.out; omega) ?_ (fun _ h => h.elim); intro A4 c4 w4 o4 k4 n4; have O4 := Lib.hid o4; have W4 := Lib.hid (below_only HWA.out k4 (fun i hi => HOA.out.base_le hi)); clear o4 k4 n4)
            go_roundg (n - (k + 1))
            case measure => omega
            case rel => exact ⟨k + 1, _, by omega, rfl, by go_num, HT2, by simpa using O4, W4⟩
          · have HT2 : Hid (keepT (l.take (k + 1)) s = u) := by rw [Hid, HT.out]; simp
            clear HT
            go_wp2_with fail
            go_roundg (n - (k + 1))
            case measure => omega
            case rel => exact ⟨k + 1, u, by omega, rfl, by go_num, HT2, HO, HW⟩
    · obtain rfl : k = n := by omega
      have i1 : ¬ (k : Int) < (k : Int) := by omega
      have htk : l.take k = l := List.take_of_length_le (by rw [HN.out]; omega)
      rw [htk] at HU
      unfold turnedL at HR
      rw [HU.out] at HR
      clear htk HU
      generalize hv5 : Value.slice AM u.length cM = v5 at *
      clear hv5
      go_wp2_with fail
      go_loopg [9, 5] m (fun gk i s5 wr => ∃ (j : Nat) (q : List RowD), j ≤ m ∧ gk = m - j ∧ i = .int .i64 (j : Int) ∧ Hid (doneT (s.take j) = q) ∧ Hid (OwnL RowE 29 wr (fun _ => False) w.heap.size s5 (u ++ q)) ∧ Hid (Below w.heap.size w wr))
      case atStart => exact ⟨0, [], by omega, rfl, rfl, rfl, by simpa using HO, HW⟩
      case round =>
        clear HO HW
        obtain ⟨j, q, hj, rfl, rfl, HQ2, HO, HW⟩ := hrel
        obtain ⟨BM, dM, rfl⟩ := HO.out.slice
        have HQL : Hid (q.length ≤ j) := by rw [Hid, ← HQ2.out]; exact doneT_len s j
        have HUQ : Hid ((u ++ q).length ≤ k + j) := by have := HQL.out; have := HUL.out; simp [Hid]; omega
        generalize hL : u ++ q = L at *
        have HL := Lib.hid hL
        clear hL
        by_cases hjl : j < m
        · have j1 : (j : Int) < (m : Int) := by omega
          have j0 : (0 : Int) ≤ (j : Int) := by omega
          have HT := Lib.hid (doneT_step s j (by rw [HM.out]; exact hjl))
          rw [HQ2.out] at HT
          obtain ⟨bk, off, A1, a1, B1, b1, rfl, hbk, c0, c1, c2, s1, s2⟩ := HQ.out.set j _ (getD_get zeroSet (by rw [HM.out]; exact hjl))
          obtain ⟨⟨xk, xv, xg⟩, hx⟩ : ∃ y, s.getD j zeroSet = y := ⟨_, rfl⟩
          rw [hx] at c0 c1 c2 s1 s2 HT
          dsimp only at c0 c1 c2 s1 s2 HT
          have y2 : wr.cell? ⟨bk, off + j * 3 + 2, none⟩ = some (.bool xg) := (HW.out.cell (p := ⟨bk, _, none⟩) hbk).trans c2
          have hg := Nat.lt_of_lt_of_le hbk HW.out.size
          have Y0 := Lib.hid ((HW.out.cell (p := ⟨bk, _, none⟩) hbk).trans c0)
          have Y1 := Lib.hid ((HW.out.cell (p := ⟨bk, _, none⟩) hbk).trans c1)
          have D0 := Lib.hid c0
          have D1 := Lib.hid c1
          have HBK := Lib.hid hbk
          have S1 := Lib.hid s1
          have S2 := Lib.hid s2
          clear c0 c1 c2 s1 s2 hx hbk HQ2
          cases xg
          · have HT2 : Hid (doneT (s.take (j + 1)) = q ++ [(xk, xv)]) := HT
            clear HT
            have y0 := Y0.out
            have y1 := Y1.out
            have hb2 := below_alloc (Below.refl wr.heap.size wr) (.cells #[Value.slice A1 xk.length a1, .slice B1 xv.length b1] 29)
            have HOA := Lib.hid ((HO.out.below hb2).drewN 1)
            have HWA := Lib.hid (below_drewN (below_step HW.out hb2) 1)
            have HX1 : Hid (((wr.alloc (.cells #[Value.slice A1 xk.length a1, .slice B1 xv.length b1] 29)).drewN 1).heap[wr.heap.size]? = some (.cells #[Value.slice A1 xk.length a1, .slice B1 xv.length b1] 29 (0, 0))) := Lib.hid (blk_new wr _)
            have HXA := Lib.hid (old_el (E := RowE) (x := (xk, xv)) (raw := [Value.slice A1 xk.length a1, .slice B1 xv.length b1]) ⟨A1, a1, B1, b1, rfl, S1.out, S2.out⟩ HWA.out HO.out (Nat.le_refl _))
            clear hb2
            go_wp2_with fail
            go_region_held3 (fun w' => w'.cell? ⟨bk, off + j * 3, none⟩ = some (.slice A1 xk.length a1) ∧ w'.cell? ⟨bk, off + j * 3 + 1, none⟩ = some (.slice B1 xv.length b1)) (first | go_keep | exact ⟨f0, f1⟩)
              (first
              | ((refine step_pushE (E := RowE) 29 74 _ 48 (by rfl) _ _ (by rfl) Try.underlying74 info_row rfl (by decide) (by decide) (by decide) (.slice BM L.length dM) L (xk, xv) [Value.slice A1 xk.length a1, .slice B1 xv.length b1] wr.heap.size 1 (by rfl) (by rfl) HOA.out HX1.out HXA.out HWA.out.size (by have := HUQ.out; omega) ?_ (fun _ h => h.elim)
                  intro A4 c4 w4 o4 k4 n4
                  have O4 := Lib.hid o4
                  have W4 := Lib.hid (below_only HWA.out k4 (fun i hi => HOA.out.base_le hi))
                  have f0 := (W4.out.cell (p := ⟨bk, _, none⟩) HBK.out).trans D0.out
                  have f1 := (W4.out.cell (p := ⟨bk, _, none⟩) HBK.out).trans D1.out
                  clear o4 k4 n4)))
            go_wp2_with fail
            go_roundg (m - (j + 1))
            case measure => omega
            case rel => exact ⟨j + 1, q ++ [(xk, xv)], by omega, rfl, by go_num, HT2, by rw [Hid, ← List.append_assoc, HL.out]; exact O4.out, W4⟩
          · have HT2 : Hid (doneT (s.take (j + 1)) = q) := by rw [Hid, HT.out]; simp
            clear HT
            go_wp2_with fail
            go_roundg (m - (j + 1))
            case measure => omega
            case rel => exact ⟨j + 1, q, by omega, rfl, by go_num, HT2, by rw [Hid, HL.out]; exact HO.out, HW⟩
        · obtain rfl : j = m := by omega
          have j1 : ¬ (j : Int) < (j : Int) := by omega
          have htj : s.take j = s := List.take_of_length_le (by rw [HM.out]; omega)
          rw [htj] at HQ2
          rw [HQ2.out, HL.out] at HR
          obtain ⟨A4, c4, e4, l4⟩ := HO.out.lst (N := fun _ => False) (fun _ _ h => h)
          have E4 := Lib.hid e4
          have L4 := Lib.hid l4
          clear htj e4 l4 HO
          go_wp2_with fail
          go_ret
          exact ⟨A4, c4, by show Ending.returned (.slice BM L.length dM) = _; rw [E4.out, HR.out], by rw [← HR.out]; exact L4.out, HW.out⟩
end Go.Proofs.Ytgbjhlkjceonpaa.Lst
/- The old rows with the sets done are the new rows (plain). -/
namespace Go.Proofs.Ytgbjhlkjceonpaa.Lst
open Go.RowKit Go.Proofs.Ytgbjhlkjceonpaa.K Go.Proofs.Ytgbjhlkjceonpaa.Help Go.Proofs.Ytgbjhlkjceonpaa.Pfx Go.Proofs.Ytgbjhlkjceonpaa.Peer
set_option linter.unusedVariables false

theorem nodup_of_fst {α β : Type} {l : List (α × β)} (h : (l.map Prod.fst).Nodup) : l.Nodup := by
  rw [List.nodup_iff_pairwise_ne] at h ⊢
  rw [List.pairwise_map] at h
  exact h.imp (fun h e => h (by rw [e]))
theorem setsOf_perm (was is_ : List RowD) : (setsOf was is_).Perm (is_.filterMap (fA was) ++ was.filterMap (fB is_)) := by
  rw [setsOf_eq]
  have := (fold_ins ltS_asym ltS_tr (is_.filterMap (fA was) ++ was.filterMap (fB is_)) [] List.Pairwise.nil).2
  simpa using this
theorem setsOf_same {is_ : List RowD} (h : (is_.map Prod.fst).Nodup) : setsOf is_ is_ = [] := by
  rw [setsOf_eq]
  have h1 : is_.filterMap (fA is_) = [] := by
    rw [List.filterMap_eq_nil_iff]
    intro r hr
    unfold fA
    rw [if_pos]
    rw [Bool.and_eq_true]
    exact ⟨hasK_mem.2 (List.mem_map.2 ⟨r, hr, rfl⟩), decide_eq_true (valOf_mem h hr)⟩
  have h2 : is_.filterMap (fB is_) = [] := by
    rw [List.filterMap_eq_nil_iff]
    intro r hr
    unfold fB
    rw [if_pos (hasK_mem.2 (List.mem_map.2 ⟨r, hr, rfl⟩))]
  rw [h1, h2]
  rfl
theorem hitB_iff {s : List SetD} {k : List UInt8} : hitB s k = true ↔ k ∈ s.map Prod.fst := by
  unfold hitB
  rw [List.any_eq_true, List.mem_map]
  constructor
  · rintro ⟨x, h1, h2⟩; exact ⟨x, h1, (of_decide_eq_true h2).symm⟩
  · rintro ⟨x, h1, h2⟩; exact ⟨x, h1, decide_eq_true h2.symm⟩
theorem hit_iff {was is_ : List RowD} (h1 : (was.map Prod.fst).Nodup) (h2 : (is_.map Prod.fst).Nodup) {r : RowD} (hr : r ∈ was) : hitB (setsOf was is_) r.1 = true ↔ r ∉ is_ := by
  rw [hitB_iff, ((setsOf_perm was is_).map Prod.fst).mem_iff, List.map_append, List.mem_append]
  constructor
  · rintro (h | h) hm
    · obtain ⟨s, hs, e⟩ := List.mem_map.1 h
      obtain ⟨q, hq, eq⟩ := List.mem_filterMap.1 hs
      obtain ⟨e1, e2⟩ := fA_some eq
      rw [e1] at e
      have : q = r := one_fst h2 hq hm e
      subst this
      exact e2 ⟨hasK_mem.2 (List.mem_map.2 ⟨q, hr, rfl⟩), valOf_mem h1 hr⟩
    · obtain ⟨s, hs, e⟩ := List.mem_map.1 h
      obtain ⟨q, hq, eq⟩ := List.mem_filterMap.1 hs
      obtain ⟨e1, e2⟩ := fB_some eq
      rw [e1] at e
      have : q = r := one_fst h1 hq hr e
      subst this
      rw [hasK_mem.2 (List.mem_map.2 ⟨q, hm, rfl⟩)] at e2
      cases e2
  · intro hm
    cases hk : hasK is_ r.1 with
    | false =>
      refine .inr (List.mem_map.2 ⟨(r.1, [], true), List.mem_filterMap.2 ⟨r, hr, ?_⟩, rfl⟩)
      unfold fB
      rw [if_neg (by rw [hk]; simp)]
    | true =>
      obtain ⟨q, hq, e⟩ := List.mem_map.1 (hasK_mem.1 hk)
      refine .inl (List.mem_map.2 ⟨(q.1, q.2, false), List.mem_filterMap.2 ⟨q, hq, ?_⟩, e⟩)
      unfold fA
      rw [if_neg]
      intro hb
      rw [Bool.and_eq_true] at hb
      have hv := of_decide_eq_true hb.2
      rw [e, valOf_mem h1 hr] at hv
      exact hm (by have : q = r := Prod.ext e hv.symm
                   rwa [this] at hq)
theorem done_A (was : List RowD) : ∀ is_ : List RowD, doneT (is_.filterMap (fA was)) = is_.filter (fun r => !(hasK was r.1 && decide (valOf was r.1 = r.2)))
  | [] => rfl
  | r :: t => by
    rw [List.filterMap_cons, List.filter_cons]
    have ih := done_A was t
    unfold fA at ih ⊢
    by_cases h : (hasK was r.1 && decide (valOf was r.1 = r.2)) = true
    · rw [if_pos h, h]
      exact ih
    · rw [if_neg h]
      have h' : (hasK was r.1 && decide (valOf was r.1 = r.2)) = false := by simpa using h
      rw [h']
      unfold doneT at ih ⊢
      dsimp only
      rw [List.filter_cons]
      simp only [Bool.not_false, if_true, List.map_cons]
      rw [ih]
theorem done_B (is_ : List RowD) : ∀ was : List RowD, doneT (was.filterMap (fB is_)) = []
  | [] => rfl
  | r :: t => by
    rw [List.filterMap_cons]
    have ih := done_B is_ t
    unfold fB at ih ⊢
    by_cases h : hasK is_ r.1 = true
    · rw [if_pos h]; exact ih
    · rw [if_neg h]
      unfold doneT at ih ⊢
      dsimp only
      rw [List.filter_cons]
      simp
theorem turned_perm {was is_ : List RowD} (h1 : (was.map Prod.fst).Nodup) (h2 : (is_.map Prod.fst).Nodup) : (turnedL was (setsOf was is_)).Perm is_ := by
  unfold turnedL
  have hd : (doneT (setsOf was is_)).Perm (is_.filter (fun r => !(hasK was r.1 && decide (valOf was r.1 = r.2)))) := by
    have := (((setsOf_perm was is_).filter (fun x => !x.2.2)).map (fun x => (x.1, x.2.1)))
    unfold doneT
    refine this.trans ?_
    rw [List.filter_append, List.map_append]
    have ea := done_A was is_
    have eb := done_B is_ was
    unfold doneT at ea eb
    rw [ea, eb, List.append_nil]
  have hk : (keepT was (setsOf was is_)).Perm (is_.filter (fun r => hasK was r.1 && decide (valOf was r.1 = r.2))) := by
    refine (List.perm_ext_iff_of_nodup ((nodup_of_fst h1).sublist List.filter_sublist) ((nodup_of_fst h2).sublist List.filter_sublist)).2 (fun r => ?_)
    rw [List.mem_filter, List.mem_filter]
    constructor
    · rintro ⟨hr, hn⟩
      have hm : r ∈ is_ := by
        cases Classical.em (r ∈ is_) with
        | inl h => exact h
        | inr h => rw [(hit_iff h1 h2 hr).2 h] at hn; cases hn
      refine ⟨hm, ?_⟩
      rw [Bool.and_eq_true]
      exact ⟨hasK_mem.2 (List.mem_map.2 ⟨r, hr, rfl⟩), decide_eq_true (valOf_mem h1 hr)⟩
    · rintro ⟨hm, hb⟩
      rw [Bool.and_eq_true] at hb
      obtain ⟨q, hq, e⟩ := List.mem_map.1 (hasK_mem.1 hb.1)
      have hv := of_decide_eq_true hb.2
      rw [← e, valOf_mem h1 hq] at hv
      have : q = r := Prod.ext e hv
      subst this
      refine ⟨hq, ?_⟩
      cases hh : hitB (setsOf was is_) q.1 with
      | false => rfl
      | true => exact absurd hm ((hit_iff h1 h2 hq).1 hh)
  exact (hk.append hd).trans (List.filter_append_perm _ _)
end Go.Proofs.Ytgbjhlkjceonpaa.Lst
/- The walk of in. -/
namespace Go.Proofs.Ytgbjhlkjceonpaa.Lst
open Go.RowKit Go.Proofs.Ytgbjhlkjceonpaa.K Go.Proofs.Ytgbjhlkjceonpaa.Help Go.Proofs.Ytgbjhlkjceonpaa.Pfx Go.Proofs.Ytgbjhlkjceonpaa.Peer
set_option linter.unusedVariables false

def inB (l : List RowD) (k v : List UInt8) : Bool := l.any (fun x => decide (x.1 = k) && decide (x.2 = v))
theorem inB_step (l : List RowD) (k v : List UInt8) (j : Nat) (hj : j < l.length) : inB (l.take (j + 1)) k v = (inB (l.take j) k v || (decide ((l.getD j zR).1 = k) && decide ((l.getD j zR).2 = v))) := by
  have e : l.getD j zR = l[j] := by simp [hj]
  rw [List.take_succ_eq_append_getElem hj, e]
  unfold inB
  rw [List.any_append]
  simp
theorem inB_mem {l : List RowD} {r : RowD} (h : r ∈ l) : inB l r.1 r.2 = true := by
  unfold inB
  rw [List.any_eq_true]
  exact ⟨r, h, by simp⟩
theorem inB_true {l : List RowD} {k v : List UInt8} {j : Nat} (h : inB (l.take j) k v = true) : inB l k v = true := by
  unfold inB at *
  rw [List.any_eq_true] at *
  obtain ⟨x, hx, e⟩ := h
  exact ⟨x, List.mem_of_mem_take hx, e⟩
/-- a row's box stands -/
def BoxR (w : World) (x y : Value) (W : World) : Prop := RdS w W x y
theorem BoxR.step {w : World} {x y : Value} : ∀ W W' : World, BoxR w x y W → Below W.heap.size W W' → BoxR w x y W' := fun _ _ h hb => RdS.step h hb
instance {w : World} {x y : Value} : Nonempty (Cls (BoxR w x y)) := ⟨⟨_, RdS.start w x y⟩⟩
set_option maxRecDepth 100000 in
set_option maxHeartbeats 2000000 in
theorem in_any (A K V : Option Addr) (a kc vc : Nat) (l : List RowD) (k v : List UInt8) (w : World) (hp : Lst RowE w (fun _ => False) A a l) (hk : Bs w K kc k) (hv : Bs w V vc v) :
    Calls Try.prog 33 #[.slice A l.length a, .agg #[.slice K k.length kc, .slice V v.length vc]] w (Pure w (.bool (inB l k v))) := by
  have HP := Lib.hid hp
  have HK := Lib.hid hk
  have HV := Lib.hid hv
  have h1 := hp.le
  have h2 := hp.max
  clear hp hk hv
  have HC := Lib.hid (RdS.start w (.slice K k.length kc) (.slice V v.length vc))
  generalize hr : inB l k v = res
  have HR := Lib.hid hr
  generalize hkl : k.length = kl at *
  have HKL := Lib.hid hkl
  generalize hvl : v.length = vl at *
  have HVL := Lib.hid hvl
  generalize hnn : l.length = n at *
  have HN := Lib.hid hnn
  clear hr hkl hvl hnn
  go_enter Try.func33, Try.ntmps33
  go_wp2_with fail
  go_loopg [5] n (fun gk i wr => ∃ (j : Nat), j ≤ n ∧ gk = n - j ∧ i = .int .i64 (j : Int) ∧ Hid (inB (l.take j) k v = false) ∧ Hid (RdS w wr (.slice K kl kc) (.slice V vl vc)))
  case atStart => exact ⟨0, by omega, rfl, rfl, rfl, HC⟩
  case round =>
    clear HC
    obtain ⟨j, hj, rfl, rfl, HI, HC⟩ := hrel
    by_cases hlt : j < n
    · have i1 : (j : Int) < (n : Int) := by omega
      have i0 : (0 : Int) ≤ (j : Int) := by omega
      have HT := Lib.hid (inB_step l k v j (by rw [HN.out]; exact hlt))
      have HTR := Lib.hid (inB_true (l := l) (k := k) (v := v) (j := j + 1))
      rw [HI.out, Bool.false_or] at HT
      obtain ⟨bk, off, A1, a1, B1, b1, rfl, hbk, c0, c1, s1, s2⟩ := HP.out.row j _ (getD_get zR (by rw [HN.out]; exact hlt))
      have HG0 : Hid (BoxR w (.slice K kl kc) (.slice V vl vc) (wr.drewN 1)) := Lib.hid (HC.out.drewN 1)
      have y0 : ∀ p : Cls (BoxR w (.slice K kl kc) (.slice V vl vc)), p.W.cell? ⟨bk, off + j * 2, none⟩ = some (.slice A1 (l.getD j zR).1.length a1) := fun p => (RdS.below p.ok).cell (p := ⟨bk, _, none⟩) hbk |>.trans c0
      have y1 : ∀ p : Cls (BoxR w (.slice K kl kc) (.slice V vl vc)), p.W.cell? ⟨bk, off + j * 2 + 1, none⟩ = some (.slice B1 (l.getD j zR).2.length b1) := fun p => (RdS.below p.ok).cell (p := ⟨bk, _, none⟩) hbk |>.trans c1
      have z0 : ∀ p : Cls (BoxR w (.slice K kl kc) (.slice V vl vc)), p.W.cell? ⟨w.heap.size, 0, none⟩ = some (.slice K kl kc) := fun p => RdS.c0 p.ok
      have z1 : ∀ p : Cls (BoxR w (.slice K kl kc) (.slice V vl vc)), p.W.cell? ⟨w.heap.size, 1, none⟩ = some (.slice V vl vc) := fun p => RdS.c1 p.ok
      have SR := Lib.hid (fun p : Cls (BoxR w (.slice K kl kc) (.slice V vl vc)) => sameRow A1 B1 K V a1 b1 kc vc (l.getD j zR).1 (l.getD j zR).2 k v p.W (s1.1.below (RdS.below p.ok)) (s2.1.below (RdS.below p.ok)) (HK.out.below (RdS.below p.ok)) (HV.out.below (RdS.below p.ok)))
      rw [HKL.out, HVL.out] at SR
      clear c0 c1 s1 s2 hbk
      generalize (decide ((l.getD j zR).1 = k) && decide ((l.getD j zR).2 = v)) = t at *
      generalize (l.getD j zR).1.length = q1 at *
      generalize (l.getD j zR).2.length = q2 at *
      go_wp2_with fail
      refine wp_region_quiet_cls (BoxR w (.slice K kl kc) (.slice V vl vc)) (by kernel_rfl) (by kernel_rfl) HG0.out ?_
      repeat (go_big_quiet_step ((go_at_call 11; exact calls_cls BoxR.step (SR.out _))))
      refine wpQuiet_nil ?_
      intro _ hw'
      obtain ⟨nq, hw''⟩ := hw'
      subst hw''
      have HC2 : Hid (RdS w nq.W (.slice K kl kc) (.slice V vl vc)) := Lib.hid nq.ok
      cases t
      · go_wp2_with fail
        go_roundg (n - (j + 1))
        case measure => omega
        case rel => exact ⟨j + 1, by omega, rfl, by go_num, HT, HC2⟩
      · have HE : Hid (res = true) := by rw [Hid, ← HR.out]; exact HTR.out HT.out
        go_wp2_with fail
        go_ret
        exact ⟨ret_bool HE.out.symm, HC2.out.below⟩
    · obtain rfl : j = n := by omega
      have i1 : ¬ (j : Int) < (j : Int) := by omega
      have htk : l.take j = l := List.take_of_length_le (by rw [HN.out]; omega)
      have HE : Hid (res = false) := by rw [Hid, ← HR.out, ← HI.out, htk]
      clear htk
      go_wp2_with fail
      go_ret
      exact ⟨ret_bool HE.out.symm, HC.out.below⟩
end Go.Proofs.Ytgbjhlkjceonpaa.Lst
/- The walk of RowsTurn. -/
namespace Go.Proofs.Ytgbjhlkjceonpaa.rowsTurn
open Go.RowKit Go.Proofs.Ytgbjhlkjceonpaa.K Go.Proofs.Ytgbjhlkjceonpaa.Help Go.Proofs.Ytgbjhlkjceonpaa.Lst Go.Proofs.Ytgbjhlkjceonpaa.Peer
set_option linter.unusedVariables false

theorem refSets_no {ps ps' : List PeerD} {ls ls' : List LaneD} (h : (okPL ps ls && okPL ps' ls') = false) : refSets ps ps' ls ls' = ([], 114) := by
  unfold refSets; rw [h]; rfl
theorem refSets_yes {ps ps' : List PeerD} {ls ls' : List LaneD} (h : (okPL ps ls && okPL ps' ls') = true) : refSets ps ps' ls ls' = (setsOf (rowsPL ps ls) (rowsPL ps' ls'), 0) := by
  unfold refSets; rw [h]; rfl
theorem setsOf_le (was is_ : List RowD) : (setsOf was is_).length ≤ was.length + is_.length := by
  rw [(setsOf_perm was is_).length_eq, List.length_append]
  have h1 := List.length_filterMap_le (fA was) is_
  have h2 := List.length_filterMap_le (fB is_) was
  omega
set_option maxRecDepth 100000 in
set_option maxHeartbeats 4000000 in
theorem walk (A A' B B' : Option Addr) (a a' b b' : Nat) (ps ps' : List PeerD) (ls ls' : List LaneD) (W : World) (hp : Lst PeerE W (fun _ => False) A a ps) (hp' : Lst PeerE W (fun _ => False) A' a' ps') (hq : Lst LaneE W (fun _ => False) B b ls) (hq' : Lst LaneE W (fun _ => False) B' b' ls') :
    Calls Try.prog 7 #[caseV A A' B B' a a' b b' ps.length ps'.length ls.length ls'.length] W fun e W' => e = .returned (.bool true) ∧ Below W.heap.size W W' := by
  have HP := Lib.hid hp
  have HP' := Lib.hid hp'
  have HQ := Lib.hid hq
  have HQ' := Lib.hid hq'
  have C0 := Lib.hid (CsS.start W (.slice A ps.length a) (.slice A' ps'.length a') (.slice B ls.length b) (.slice B' ls'.length b'))
  have FT := Lib.hid (fun w h h' => fits_any A A' B B' a a' b b' ls.length ls'.length ps ps' w h h')
  clear hp hp' hq hq'
  unfold caseV at FT ⊢
  go_enter Try.func7, Try.ntmps7
  go_wp2_with fail
  refine (first_any _).mono ?_
  rintro e w1 ⟨rfl, hb1⟩
  have C1 := Lib.hid (C0.out.step hb1)
  have z0 := C1.out.c0
  have z1 := C1.out.c1
  have z2 := C1.out.c2
  have z3 := C1.out.c3
  clear hb1 C0
  go_wp2_with fail
  refine (FT.out w1 (HP.out.below C1.out.below) (HP'.out.below C1.out.below)).mono ?_
  rintro e w2 ⟨fb, rfl, hf, hb2⟩
  have C2 := Lib.hid (C1.out.step hb2)
  have HF := Lib.hid hf
  clear hf hb2 z0 z1 z2 z3 C1 FT
  cases fb
  · have W1 := Lib.hid C2.out.below
    go_wp2_with fail
    go_ret
    exact ⟨rfl, W1.out⟩
  · obtain ⟨n1, n2, n3, n4, x1, x2⟩ := HF.out rfl
    have ST := Lib.hid (fun (w : World) hp hp' hq hq' => sets_any A A' B B' a a' b b' ps ps' ls ls' w hp hp' hq hq' (by omega) (by omega) (by omega) (by omega))
    have ST2 := Lib.hid (fun (w : World) hp hq => sets_any A' A' B' B' a' a' b' b' ps' ps' ls' ls' w hp hp hq hq (by omega) (by omega) (by omega) (by omega))
    have P1 := Lib.hid (fun w h h' => put_any A B a b ps ls w h h' (by omega) (by omega))
    have P2 := Lib.hid (fun w h h' => put_any A' B' a' b' ps' ls' w h h' (by omega) (by omega))
    rw [progQ_eq] at ST ST2
    have z0 := C2.out.c0
    have z1 := C2.out.c1
    have z2 := C2.out.c2
    have z3 := C2.out.c3
    have LW : Hid ((rowsPL ps ls).length ≤ 200) := by rw [Hid, rowsPL_len]; omega
    have LI : Hid ((rowsPL ps' ls').length ≤ 200) := by rw [Hid, rowsPL_len]; omega
    clear n1 n2 n3 n4 x1 x2 HF
    by_cases hok : (okPL ps ls && okPL ps' ls') = true
    · have hok2 := Bool.and_eq_true_iff.1 hok
      have HW := okPL_nodup hok2.1
      have HI := okPL_nodup hok2.2
      rw [refSets_yes hok] at ST
      rw [refSets_yes (by rw [hok2.2]; rfl), setsOf_same HI] at ST2
      have TP := Lib.hid (turned_perm HW HI)
      have SL := Lib.hid (setsOf_le (rowsPL ps ls) (rowsPL ps' ls'))
      clear hok hok2 HW HI
      generalize rowsPL ps ls = was at *
      generalize rowsPL ps' ls' = is_ at *
      have TN := Lib.hid (fun A B a b w h h' => turned_any A B a b was (setsOf was is_) w h h' (by have := LW.out; omega) (by have := LW.out; have := LI.out; have := SL.out; omega))
      have TL := Lib.hid (TP.out.length_eq)
      have TM : Hid (∀ r, r ∈ is_ → r ∈ turnedL was (setsOf was is_)) := Lib.hid (fun r h => TP.out.mem_iff.2 h)
      generalize turnedL was (setsOf was is_) = now at *
      generalize setsOf was is_ = s at *
      go_wp2_with fail
      refine (ST.out w2 (HP.out.below C2.out.below) (HP'.out.below C2.out.below) (HQ.out.below C2.out.below) (HQ'.out.below C2.out.below)).mono ?_
      rintro e w3 ⟨S1, sc1, rfl, l1, hb3⟩
      dsimp only at l1 ⊢
      have C3 := Lib.hid (C2.out.step hb3)
      have LS := Lib.hid l1
      have y0 := C3.out.c0
      have y1 := C3.out.c1
      have y2 := C3.out.c2
      have y3 := C3.out.c3
      clear l1 hb3 z0 z1 z2 z3 C2 ST TP SL
      go_wp2_with (go_at_call 16; refine (num_any _ _).mono ?_; rintro e w' ⟨rfl, rfl⟩)
      refine (P1.out w3 (HP.out.below C3.out.below) (HQ.out.below C3.out.below)).mono ?_
      rintro e w4 ⟨A4, a4, rfl, l4, hb4⟩
      have C4 := Lib.hid (C3.out.step hb4)
      have LW4 := Lib.hid l4
      have LS4 := Lib.hid (LS.out.below hb4)
      have x0 := C4.out.c0
      have x1 := C4.out.c1
      have x2 := C4.out.c2
      have x3 := C4.out.c3
      clear l4 hb4 y0 y1 y2 y3 C3 LS P1
      go_wp2_with fail
      refine (P2.out w4 (HP'.out.below C4.out.below) (HQ'.out.below C4.out.below)).mono ?_
      rintro e w5 ⟨A5, a5, rfl, l5, hb5⟩
      have C5 := Lib.hid (C4.out.step hb5)
      have LI5 := Lib.hid l5
      have LW5 := Lib.hid (LW4.out.below hb5)
      have LS5 := Lib.hid (LS4.out.below hb5)
      clear l5 hb5 x0 x1 x2 x3 C4 LW4 LS4 P2
      go_wp2_with fail
      refine (TN.out A4 S1 a4 sc1 w5 LW5.out LS5.out).mono ?_
      rintro e w6 ⟨A6, a6, rfl, l6, hb6⟩
      have C6 := Lib.hid (C5.out.step hb6)
      have LN6 := Lib.hid l6
      have LI6 := Lib.hid (LI5.out.below hb6)
      have h1 := LI6.out.le
      have h2 := LI6.out.max
      have IA := Lib.hid (fun K V kc vc k v w h h1 h2 => in_any A6 K V a6 kc vc now k v w h h1 h2)
      rw [TL.out] at IA ⊢
      clear l6 hb6 C5 LI5 LW5 LS5 TN TL
      generalize hnn : is_.length = n at *
      have HN := Lib.hid hnn
      clear hnn
      go_wp2_with fail
      go_loopg [9] n (fun gk i wr => ∃ (j : Nat), j ≤ n ∧ gk = n - j ∧ i = .int .i64 (j : Int) ∧ Hid (Below w6.heap.size w6 wr))
      case atStart => exact ⟨0, by omega, rfl, rfl, Below.refl _ _⟩
      case round =>
        obtain ⟨j, hj, rfl, rfl, HB⟩ := hrel
        by_cases hlt : j < n
        · have i1 : (j : Int) < (n : Int) := by omega
          have i0 : (0 : Int) ≤ (j : Int) := by omega
          obtain ⟨bk, off, A1, a1, B1, b1, rfl, hbk, c0, c1, s1, s2⟩ := LI6.out.row j _ (getD_get zR (by rw [HN.out]; exact hlt))
          have hm : is_.getD j zR ∈ is_ := by
            have hl : j < is_.length := by rw [HN.out]; exact hlt
            have e : is_.getD j zR = is_[j] := by simp [hl]
            rw [e]; exact List.getElem_mem hl
          have hin := inB_mem (TM.out _ hm)
          obtain ⟨⟨xk, xv⟩, hx⟩ : ∃ y, is_.getD j zR = y := ⟨_, rfl⟩
          rw [hx] at c0 c1 s1 s2 hin
          dsimp only at c0 c1 s1 s2 hin
          have y0 : wr.cell? ⟨bk, off + j * 2, none⟩ = some (.slice A1 xk.length a1) := (HB.out.cell (p := ⟨bk, _, none⟩) hbk).trans c0
          have y1 : wr.cell? ⟨bk, off + j * 2 + 1, none⟩ = some (.slice B1 xv.length b1) := (HB.out.cell (p := ⟨bk, _, none⟩) hbk).trans c1
          have IC := Lib.hid (IA.out A1 B1 a1 b1 xk xv wr (LN6.out.below HB.out) (s1.1.below HB.out) (s2.1.below HB.out))
          rw [hin] at IC
          clear c0 c1 s1 s2 hx hm hin hbk
          go_wp2_with fail
          refine IC.out.mono ?_
          rintro e w7 ⟨rfl, hb7⟩
          have HB7 := Lib.hid (below_step HB.out hb7)
          clear hb7
          go_wp2_with fail
          go_roundg (n - (j + 1))
          case measure => omega
          case rel => exact ⟨j + 1, by omega, rfl, by go_num, HB7⟩
        · obtain rfl : j = n := by omega
          have i1 : ¬ (j : Int) < (j : Int) := by omega
          have C7 := Lib.hid (C6.out.step HB.out)
          have z0 := C7.out.c0
          have z1 := C7.out.c1
          have z2 := C7.out.c2
          have z3 := C7.out.c3
          clear HB C6
          go_wp2_with fail
          refine (ST2.out wr (HP'.out.below C7.out.below) (HQ'.out.below C7.out.below)).mono ?_
          rintro e w8 ⟨S2, sc2, rfl, l2, hb8⟩
          have W8 := Lib.hid (below_step C7.out.below hb8)
          clear l2 hb8 z0 z1 z2 z3 C7
          go_wp2_with (go_at_call 16; refine (num_any _ _).mono ?_; rintro e w' ⟨rfl, rfl⟩)
          go_ret
          exact ⟨rfl, W8.out⟩
    · have hok2 : (okPL ps ls && okPL ps' ls') = false := by simpa using hok
      rw [refSets_no hok2] at ST
      clear hok hok2 ST2 P1 P2
      go_wp2_with fail
      refine (ST.out w2 (HP.out.below C2.out.below) (HP'.out.below C2.out.below) (HQ.out.below C2.out.below) (HQ'.out.below C2.out.below)).mono ?_
      rintro e w3 ⟨S1, sc1, rfl, l1, hb3⟩
      have W3 := Lib.hid (below_step C2.out.below hb3)
      clear l1 hb3 z0 z1 z2 z3 C2
      go_wp2_with (go_at_call 16; refine (num_any _ _).mono ?_; rintro e w' ⟨rfl, rfl⟩)
      go_ret
      exact ⟨rfl, W3.out⟩
end Go.Proofs.Ytgbjhlkjceonpaa.rowsTurn
