/- The walk of WindowMany. -/
import Derived.Test.YthiiobhogkenhaaPairR
import Derived.Test.YthiiobhogkenhaaHarn
namespace Go.Proofs.Ythiiobhogkenhaa.windowMany
open Go.RowKit Go.Proofs.Ythiiobhogkenhaa.K Go.Proofs.Ythiiobhogkenhaa.Win
set_option linter.unusedVariables false
def Law (w : World) (e : Ending) (w' : World) : Prop := e = .returned (.bool true) ∧ Below w.heap.size w w'
def ptrs (n : Nat) (s : Nat → PS) : List Value := (List.range n).map fun i => .pointer (some ⟨(s i).p, 0, none⟩)
theorem ptrs_len (n : Nat) (s : Nat → PS) : (ptrs n s).length = n := by simp [ptrs]
theorem ptrs_get (n : Nat) (s : Nat → PS) (i : Nat) (h : i < n) : (ptrs n s).getD i default = .pointer (some ⟨(s i).p, 0, none⟩) := by simp [ptrs, h]
theorem PS.type {s : PS} {w : World} (h : s.live w) {k : Nat} (hk : s.full k) : ∃ cs t, w.heap[k]? = some (.cells cs t (0, 0)) ∧ t ≠ 25 := by
  unfold PS.live at h
  rcases hk with rfl | ⟨ho, hk⟩
  · split at h
    · exact ⟨_, _, h.b, by decide⟩
    · exact ⟨_, _, h, by decide⟩
  · rw [if_pos ho] at h
    obtain ⟨s0, a, _⟩ := h.win
    rcases hk with rfl | rfl | rfl | hk
    · exact ⟨_, _, a.b, by decide⟩
    · exact ⟨_, _, a.r, by decide⟩
    · exact ⟨_, _, h.ref.b, by decide⟩
    · obtain ⟨cs, hcs⟩ := own_blk h.ref.own hk
      exact ⟨_, _, hcs, by decide⟩
/-- the law's pairs and the list of them -/
structure St (w wr : World) (lv : Value) (n : Nat) (s : Nat → PS) : Prop where
  rows : Win.Rows w wr n s
  own : wr.ownsRow 0 25 1 lv n (ptrs n s)
  new : ∀ b, lv.ownBlock = some b → w.heap.size ≤ b
  on : ∀ i, i < n → (s i).on = true
theorem St.ne {w wr : World} {lv : Value} {n : Nat} {s : Nat → PS} (h : St w wr lv n s) {i k : Nat} (hi : i < n) (hk : (s i).full k) : lv.ownBlock ≠ some k := fun e => by
  obtain ⟨cs, t, h1, h2⟩ := PS.type (h.rows.live i hi) hk
  obtain ⟨cs2, h3⟩ := own_blk h.own e
  exact blk_ne h1 h3 h2 rfl
theorem St.drewN {w wr : World} {lv : Value} {n : Nat} {s : Nat → PS} (h : St w wr lv n s) (q : Nat) : St w (wr.drewN q) lv n s := ⟨h.rows.drewN q, own_drewN h.own q, h.new, h.on⟩
theorem St.begin_ {w wr w2 w3 : World} {lv v1 : Value} {n : Nat} {s : Nat → PS} {a : PS} (h : St w wr lv n s) (k : Only wr w2 (fun _ => False)) (ha : a.live w2) (hon : a.on = true) (hnew : ∀ j, a.full j → wr.heap.size ≤ j)
    (ho : w3.ownsRow 0 25 1 v1 (n + 1) (ptrs n s ++ [.pointer (some ⟨a.p, 0, none⟩)])) (hO : Only w2 w3 (fun k => lv.ownBlock = some k)) (hat : v1.ownBlock = lv.ownBlock ∨ ∃ b, v1.ownBlock = some b ∧ w2.heap.size ≤ b) :
    St w w3 v1 (n + 1) (fun i => if i = n then a else s i) := by
  have h2 := h.rows.push k ha hnew
  have hown2 : w2.ownsRow 0 25 1 lv n (ptrs n s) := own_keep h.own k (fun _ _ h => h)
  refine ⟨h2.only hO (fun i hi j hj e => ?_) (fun j hj => h.new j hj), ?_, fun b hb => ?_, fun i hi => ?_⟩
  · obtain ⟨cs, t, h3, h4⟩ := PS.type (h2.live i hi) hj
    obtain ⟨cs2, h5⟩ := own_blk hown2 e
    exact blk_ne h3 h5 h4 rfl
  · have e : ptrs (n + 1) (fun i => if i = n then a else s i) = ptrs n s ++ [.pointer (some ⟨a.p, 0, none⟩)] := by
      unfold ptrs
      rw [List.range_succ, List.map_append]
      congr 1
      · apply List.map_congr_left
        intro i hi
        have := List.mem_range.1 hi
        show Value.pointer (some ⟨(if i = n then a else s i).p, 0, none⟩) = _
        rw [if_neg (by omega)]
      · simp
    rw [e]; exact ho
  · rcases hat with hat | ⟨b2, hat, hb2⟩
    · exact h.new b (hat ▸ hb)
    · rw [hat] at hb; injection hb with hb
      have := h2.below.size
      omega
  · show PS.on (if i = n then a else s i) = true
    split
    · exact hon
    · exact h.on i (by omega)
/-- the law's list is one block -/
theorem St.cell {w wr : World} {tb n tc c : Nat} {s : Nat → PS} (h : St w wr (.slice (some ⟨tb, 0, none⟩) c tc) n s) (i : Nat) (hi : i < n) : wr.cell? ⟨tb, i, none⟩ = some (.pointer (some ⟨(s i).p, 0, none⟩)) := by
  obtain ⟨A, cap, hv, hc⟩ := own_form h.own
  obtain ⟨tb2, h1, h2⟩ := hc i hi
  injection hv with e1 e2 e3
  rw [h1] at e1
  injection e1 with e1
  injection e1 with e1
  subst e1
  rw [h2, ptrs_get n s i hi]
theorem St.live {w wr : World} {lv : Value} {n : Nat} {s : Nat → PS} (h : St w wr lv n s) (i : Nat) (hi : i < n) : Live wr (s i).p (s i).g (s i).rb (s i).rg (s i).v (s i).m := by
  have := h.rows.live i hi
  unfold PS.live at this
  rwa [if_pos (h.on i hi)] at this
def upd (s : Nat → PS) (i : Nat) (v : Value) (m : M) : Nat → PS := fun j => if j = i then { s i with v := v, m := m } else s j
theorem St.step {w wr w2 : World} {lv : Value} {n i : Nat} {s : Nat → PS} {m' : M} {v' : Value} (h : St w wr lv n s) (hi : i < n) (hl : Live w2 (s i).p (s i).g (s i).rb (s i).rg v' m') (k : Only wr w2 (Win.foot (s i).g (s i).rb (s i).rg (s i).v))
    (hat : v'.ownBlock = (s i).v.ownBlock ∨ ∃ b, v'.ownBlock = some b ∧ wr.heap.size ≤ b) : St w w2 lv n (upd s i v' m') := by
  refine ⟨h.rows.step hi (h.on i hi) hl k hat, ?_, h.new, fun j hj => ?_⟩
  · have e : ptrs n (upd s i v' m') = ptrs n s := by
      unfold ptrs upd
      apply List.map_congr_left
      intro j _
      by_cases hji : j = i
      · subst hji; simp
      · simp [hji]
    rw [e]
    exact own_keep h.own k (fun j hj hf => h.ne hi (.inr ⟨h.on i hi, hf⟩) hj)
  · unfold upd; split
    · exact h.on i hi
    · exact h.on j hj
/-- a call of plays on one of the pairs -/
def Played (w wr : World) (lv : Value) (n : Nat) (s : Nat → PS) (L : Nat) (e : Ending) (w' : World) : Prop :=
  e = .returned (.bool true) ∧ ∃ s', St w w' lv n s' ∧ (∀ j, (s' j).p = (s j).p) ∧ ((∀ j, j < n → (s j).m.taken.length ≤ L) → ∀ j, j < n → (s' j).m.taken.length ≤ L + 1)
theorem played {w wr : World} {lv : Value} {n i : Nat} {s : Nat → PS} {L : Nat} (h : St w wr lv n s) (hi : i < n) (k : Int) (c : Nat) (hc : c < 18446744073709551616) (hn : (s i).m.taken.length ≤ 1048576) :
    Calls Try.prog 14 #[.pointer (some ⟨(s i).p, 0, none⟩), .int .i64 k, .int .u64 (c : Int)] wr (Played w wr lv n s L) := by
  refine (plays_any _ _ _ _ _ _ k c wr (h.live i hi) hc hn).mono fun e w' hh => ?_
  obtain ⟨rfl, v', m', h1, h2, h3, h4⟩ := hh
  refine ⟨rfl, _, h.step hi h1 h2 h3, fun j => ?_, fun hL j hj => ?_⟩
  · unfold upd; split
    · rename_i e; subst e; rfl
    · rfl
  · unfold upd; split
    · have := hL i hi; show m'.taken.length ≤ _; omega
    · have := hL j hj; omega
theorem info_ptr : (Try.prog.info? 25).map (fun i => (i.zero, i.size, i.bytes)) = some (some (.pointer none), 1, 8) := by kernel_rfl

set_option maxRecDepth 100000 in
set_option maxHeartbeats 1000000 in
theorem walk (a0 : Nat) (b0 : a0 < 18446744073709551616) (z1 : Int) (l1 : -9223372036854775808 ≤ z1) (u1 : z1 ≤ 9223372036854775807) (A : Option Addr) (len cap : Nat) (xs : List Nat) (w : World) (R : ReadsU w A len xs) :
    Calls Try.prog 5 #[.int .u64 (a0 : Int), .int .i64 z1, .slice A len cap] w fun e w' => e = .returned (.bool true) ∧ Below w.heap.size w w' := by
  show Calls _ _ _ _ (Law w)
  by_cases hm : mayB z1 = true
  · have HB := Lib.hid (fun w => begin_any a0 z1 w b0)
    rw [hm] at HB
    have HR := Lib.hid R
    have hmax := R.max
    clear hm R
    go_enter Try.func5, Try.ntmps5
    go_wp2_with fail
    refine (known_any w).mono ?_
    rintro e w1 ⟨rfl, hO1⟩
    have HB1 := Lib.hid (hO1.below (B := w.heap.size) (fun _ h => h.elim) (Nat.le_refl _))
    clear hO1
    go_wp2_with fail
    go_loopg [7, 8] 20 (fun gk lv i wr => ∃ k : Nat, k ≤ 20 ∧ gk = 20 - k ∧ i = .int .i64 (k : Int) ∧ ∃ s, St w wr lv k s ∧ ∀ j, j < k → (s j).m.taken.length ≤ 0)
    case atStart => exact ⟨0, by omega, rfl, rfl, fun _ => ⟨true, 0, 0, 0, 0, .slice none 0 0, ⟨0, 0, []⟩⟩, ⟨⟨fun i hi => by omega, fun i j hi => by omega, HB1.out, fun i hi => by omega⟩, ⟨by simp [ptrs], .inl ⟨rfl, rfl⟩⟩, (fun b hb => by cases hb), fun i hi => by omega⟩, fun j hj => by omega⟩
    case round =>
      obtain ⟨k, hk, rfl, rfl, s, hS, hL⟩ := hrel
      have HS := Lib.hid hS
      have HLn := Lib.hid hL
      clear hS hL
      obtain ⟨TA, tc, rfl, htc⟩ := own_form HS.out.own
      clear htc
      by_cases hlt : k < 20
      · have hlt' : (k : Int) < 20 := by omega
        go_wp2_with fail
        refine (HB.out wr).mono ?_
        rintro e w2 ⟨a, rfl, ha, hon, hO, hnew, hat⟩
        have HBG := Lib.hid (And.intro ha (And.intro hon (And.intro hO (And.intro hnew hat))))
        have hL2 : Live w2 a.p a.g a.rb a.rg a.v a.m := by unfold PS.live at ha; rwa [if_pos hon] at ha
        have c0 := hL2.c0
        have HO : Hid (w2.ownsRow 0 25 1 (.slice TA k tc) (ptrs k s).length (ptrs k s)) := by rw [ptrs_len]; exact own_keep HS.out.own hO (fun _ _ h => h)
        have hl8 : ((ptrs k s).length + 1) * 8 ≤ 140737488355328 := by rw [ptrs_len]; omega
        clear ha hon hO hnew hat hL2
        go_wp2_with (at_builtin; refine ap1 rfl (.tmp 36) (.tmp 38) 43 25 (.pointer none) 8 rfl Try.underlying43 info_ptr rfl (by decide) (.slice TA k tc) (ptrs k s) (.pointer (some ⟨a.p, 0, none⟩)) rfl rfl rfl HO.out hl8 ?_; intro v1 w3 ho hO hat; rw [ptrs_len] at ho; obtain ⟨A1, cap1, rfl, hc1⟩ := own_form ho; clear hc1; have HO1 := Lib.hid ho; have HA1 := Lib.hid hat; have HO3 := Lib.hid hO; clear ho hat hO)
        go_roundg (20 - (k + 1))
        case measure => omega
        case rel =>
          obtain ⟨e1, e2, e3, e4, e5⟩ := HBG.out
          refine ⟨k + 1, by omega, rfl, by go_num, _, HS.out.begin_ e3 e1 e2 e4 HO1.out HO3.out HA1.out, fun j hj => ?_⟩
          show (PS.m (if j = k then a else s j)).taken.length ≤ 0
          split
          · rw [e5]; simp
          · exact HLn.out j (by omega)
      · obtain rfl : k = 20 := by omega
        clear hlt
        obtain ⟨tb, tc', hv⟩ : ∃ tb tc', Value.slice TA 20 tc = .slice (some ⟨tb, 0, none⟩) 20 tc' := by
          obtain ⟨tb, tc, h1, _, _⟩ := World.ownsRow.form HS.out.own (by omega)
          exact ⟨tb, tc, h1⟩
        have hTA : TA = some ⟨tb, 0, none⟩ := by injection hv
        subst hTA
        clear hv
        go_wp2_with fail
        go_loopg [11] 2000 (fun gk i wi => ∃ r : Nat, r ≤ len ∧ r ≤ 2000 ∧ gk = 2000 - r ∧ i = .int .i64 (r : Int) ∧ ∃ s', St w wi (.slice (some ⟨tb, 0, none⟩) 20 tc) 20 s' ∧ ∀ j, j < 20 → (s' j).m.taken.length ≤ r)
        case atStart => exact ⟨0, by omega, by omega, rfl, rfl, s, HS.out, HLn.out⟩
        case round =>
          obtain ⟨r, hr, hr2, rfl, rfl, s2, hS, hL⟩ := hrel
          have HS2 := Lib.hid hS
          have HL2 := Lib.hid hL
          clear hS hL
          by_cases hlt1 : r < len
          · by_cases hlt2 : r < 2000
            · have hxc : xs.getD r 0 < 18446744073709551616 := HR.out.lt _ (getD_mem _ _ (by have := HR.out.len; omega))
              obtain ⟨ad, hA, hadl, hcell0⟩ := HR.out.at_ r hlt1
              subst hA
              have hcl : ∀ w2, Below w.heap.size w w2 → w2.cell? (ad.add r) = some (.int .u64 (xs.getD r 0 : Nat)) := fun w2 hb => (hb.cell (p := ad.add r) (by rw [block_add]; exact hadl)).trans hcell0
              have HC := Lib.hid hcl
              have hc1 := hcl _ HS2.out.rows.below
              clear hcell0 hadl hcl
              generalize xs.getD r 0 = c at *
              have hq : 7 * r % 20 < 20 := Nat.mod_lt _ (by omega)
              have hcp := HS2.out.cell (7 * r % 20) hq
              have T1 := Lib.hid (fun q => played (L := r) (HS2.out.drewN q) hq 1 c hxc (by have := HL2.out _ hq; omega))
              have hlt3 : (r : Int) < 2000 := by omega
              have hq1 : ((7 : Int) * r) % 20 = ((7 * r % 20 : Nat) : Int) := by omega
              have hq0 : 0 ≤ (7 : Int) * r := by omega
              have hq3 : Int.tmod ((7 : Int) * r) 20 = ((7 * r % 20 : Nat) : Int) := by rw [Int.tmod_eq_emod_of_nonneg hq0]; omega
              have hq2 : (((7 * r % 20 : Nat) : Int)) < 20 := by omega
              have hq5 : IntKind.i64.wrap ((7 : Int) * r) = 7 * r := IntWalk.i64_in _ (by omega)
              have hq6 : IntKind.i64.wrap ((7 * r % 20 : Nat) : Int) = ((7 * r % 20 : Nat) : Int) := IntWalk.i64_in _ (by omega)
              have hq7 : 0 ≤ ((7 * r % 20 : Nat) : Int) := by omega
              generalize 7 * r % 20 = x at *
              go_wp2_with fail
              go_region_held3 (fun w' => w'.cell? (ad.add r) = some (.int .u64 (c : Int)) ∧ w'.cell? ⟨tb, x, none⟩ = some (.pointer (some ⟨(s2 x).p, 0, none⟩))) (first | go_keep | exact ⟨f0, f1⟩)
                (first
                | (go_at_call 14; refine (T1.out _).mono ?_; rintro e w5 ⟨rfl, s3, hS3, hp3, hL3⟩; have H3 := Lib.hid (And.intro hS3 (hL3 HL2.out)); have f0 := HC.out _ hS3.rows.below; have f1 := hS3.cell x hq; rw [hp3 x] at f1; clear hS3 hp3 hL3))
              go_wp2_with fail
              go_roundg (2000 - (r + 1))
              case measure => omega
              case rel => exact ⟨r + 1, by omega, by omega, rfl, by go_num, s3, H3.out.1, H3.out.2⟩
            · go_wp2_with fail
              go_loopg [13] 40 (fun gk i wi => ∃ r : Nat, r ≤ len ∧ r ≤ 40 ∧ gk = 40 - r ∧ i = .int .i64 (r : Int) ∧ ∃ s', St w wi (.slice (some ⟨tb, 0, none⟩) 20 tc) 20 s' ∧ ∀ j, j < 20 → (s' j).m.taken.length ≤ 2000 + 40 * r)
              case atStart => exact ⟨0, by omega, by omega, rfl, rfl, s2, HS2.out, fun j hj => by have := HL2.out j hj; omega⟩
              case round =>
                obtain ⟨y, hy, hy2, rfl, rfl, s4, hS4, hL4⟩ := hrel
                have HS4 := Lib.hid hS4
                have HL4 := Lib.hid hL4
                clear hS4 hL4
                by_cases hy1 : y < len
                · by_cases hy3 : y < 40
                  · have hxc : xs.getD y 0 < 18446744073709551616 := HR.out.lt _ (getD_mem _ _ (by have := HR.out.len; omega))
                    obtain ⟨ad, hA, hadl, hcell0⟩ := HR.out.at_ y hy1
                    subst hA
                    have hcl : ∀ w2, Below w.heap.size w w2 → w2.cell? (ad.add y) = some (.int .u64 (xs.getD y 0 : Nat)) := fun w2 hb => (hb.cell (p := ad.add y) (by rw [block_add]; exact hadl)).trans hcell0
                    have HC := Lib.hid hcl
                    clear hcell0 hadl hcl
                    generalize xs.getD y 0 = c at *
                    have hy4 : (y : Int) < 40 := by omega
                    go_wp2_with fail
                    go_loopg [14] 20 (fun gk i wi => ∃ x : Nat, x ≤ 20 ∧ gk = 20 - x ∧ i = .int .i64 (x : Int) ∧ ∃ s', St w wi (.slice (some ⟨tb, 0, none⟩) 20 tc) 20 s' ∧ ∀ j, j < 20 → (s' j).m.taken.length ≤ 2000 + 40 * y + 2 * x)
                    case atStart => exact ⟨0, by omega, rfl, rfl, s4, HS4.out, fun j hj => by have := HL4.out j hj; omega⟩
                    case round =>
                      obtain ⟨x, hx, rfl, rfl, s5, hS5, hL5⟩ := hrel
                      have HS5 := Lib.hid hS5
                      have HL5 := Lib.hid hL5
                      clear hS5 hL5
                      by_cases hx1 : x < 20
                      · have hx2 : (x : Int) < 20 := by omega
                        have hc1 := HC.out _ HS5.out.rows.below
                        have hcp := HS5.out.cell x hx1
                        have T1 := Lib.hid (fun q => played (L := 2000 + 40 * y + 2 * x) (HS5.out.drewN q) hx1 2 c hxc (by have := HL5.out _ hx1; omega))
                        go_wp2_with fail
                        go_region_held3 (fun w' => w'.cell? (ad.add y) = some (.int .u64 (c : Int)) ∧ w'.cell? ⟨tb, x, none⟩ = some (.pointer (some ⟨(s5 x).p, 0, none⟩))) (first | go_keep | exact ⟨f0, f1⟩)
                          (first
                          | (go_at_call 14; refine (T1.out _).mono ?_; rintro e w5 ⟨rfl, s3, hS3, hp3, hL3⟩; have H3 := Lib.hid (And.intro hS3 (hL3 HL5.out)); have f0 := HC.out _ hS3.rows.below; have f1 := hS3.cell x hx1; rw [hp3 x] at f1; have HP3 := Lib.hid (hp3 x); clear hS3 hp3 hL3))
                        go_wp2_with fail
                        have t2 := played (L := 2000 + 40 * y + 2 * x + 1) H3.out.1 hx1 3 0 (by omega) (by have := H3.out.2 _ hx1; omega)
                        rw [HP3.out] at t2
                        refine t2.mono ?_
                        clear t2
                        rintro e w6 ⟨rfl, s6, hS6, hp6, hL6⟩
                        have H6 := Lib.hid (And.intro hS6 (hL6 H3.out.2))
                        clear hS6 hp6 hL6
                        go_wp2_with fail
                        go_roundg (20 - (x + 1))
                        case measure => omega
                        case rel => exact ⟨x + 1, by omega, rfl, by go_num, s6, H6.out.1, fun j hj => by have := H6.out.2 j hj; omega⟩
                      · obtain rfl : x = 20 := by omega
                        go_wp2_with fail
                        go_roundg (40 - (y + 1))
                        case measure => omega
                        case rel => exact ⟨y + 1, by omega, by omega, rfl, by go_num, s5, HS5.out, fun j hj => by have := HL5.out j hj; omega⟩
                  · go_wp2_with fail
                    go_ret
                    exact ⟨rfl, HS4.out.rows.below⟩
                · go_wp2_with fail
                  go_ret
                  exact ⟨rfl, HS4.out.rows.below⟩
          · go_wp2_with fail
            go_loopg [13] 40 (fun gk i wi => ∃ r : Nat, r ≤ len ∧ r ≤ 40 ∧ gk = 40 - r ∧ i = .int .i64 (r : Int) ∧ ∃ s', St w wi (.slice (some ⟨tb, 0, none⟩) 20 tc) 20 s' ∧ ∀ j, j < 20 → (s' j).m.taken.length ≤ 2000 + 40 * r)
            case atStart => exact ⟨0, by omega, by omega, rfl, rfl, s2, HS2.out, fun j hj => by have := HL2.out j hj; omega⟩
            case round =>
              obtain ⟨y, hy, hy2, rfl, rfl, s4, hS4, hL4⟩ := hrel
              have HS4 := Lib.hid hS4
              have HL4 := Lib.hid hL4
              clear hS4 hL4
              by_cases hy1 : y < len
              · by_cases hy3 : y < 40
                · have hxc : xs.getD y 0 < 18446744073709551616 := HR.out.lt _ (getD_mem _ _ (by have := HR.out.len; omega))
                  obtain ⟨ad, hA, hadl, hcell0⟩ := HR.out.at_ y hy1
                  subst hA
                  have hcl : ∀ w2, Below w.heap.size w w2 → w2.cell? (ad.add y) = some (.int .u64 (xs.getD y 0 : Nat)) := fun w2 hb => (hb.cell (p := ad.add y) (by rw [block_add]; exact hadl)).trans hcell0
                  have HC := Lib.hid hcl
                  clear hcell0 hadl hcl
                  generalize xs.getD y 0 = c at *
                  have hy4 : (y : Int) < 40 := by omega
                  go_wp2_with fail
                  go_loopg [14] 20 (fun gk i wi => ∃ x : Nat, x ≤ 20 ∧ gk = 20 - x ∧ i = .int .i64 (x : Int) ∧ ∃ s', St w wi (.slice (some ⟨tb, 0, none⟩) 20 tc) 20 s' ∧ ∀ j, j < 20 → (s' j).m.taken.length ≤ 2000 + 40 * y + 2 * x)
                  case atStart => exact ⟨0, by omega, rfl, rfl, s4, HS4.out, fun j hj => by have := HL4.out j hj; omega⟩
                  case round =>
                    obtain ⟨x, hx, rfl, rfl, s5, hS5, hL5⟩ := hrel
                    have HS5 := Lib.hid hS5
                    have HL5 := Lib.hid hL5
                    clear hS5 hL5
                    by_cases hx1 : x < 20
                    · have hx2 : (x : Int) < 20 := by omega
                      have hc1 := HC.out _ HS5.out.rows.below
                      have hcp := HS5.out.cell x hx1
                      have T1 := Lib.hid (fun q => played (L := 2000 + 40 * y + 2 * x) (HS5.out.drewN q) hx1 2 c hxc (by have := HL5.out _ hx1; omega))
                      go_wp2_with fail
                      go_region_held3 (fun w' => w'.cell? (ad.add y) = some (.int .u64 (c : Int)) ∧ w'.cell? ⟨tb, x, none⟩ = some (.pointer (some ⟨(s5 x).p, 0, none⟩))) (first | go_keep | exact ⟨f0, f1⟩)
                        (first
                        | (go_at_call 14; refine (T1.out _).mono ?_; rintro e w5 ⟨rfl, s3, hS3, hp3, hL3⟩; have H3 := Lib.hid (And.intro hS3 (hL3 HL5.out)); have f0 := HC.out _ hS3.rows.below; have f1 := hS3.cell x hx1; rw [hp3 x] at f1; have HP3 := Lib.hid (hp3 x); clear hS3 hp3 hL3))
                      go_wp2_with fail
                      have t2 := played (L := 2000 + 40 * y + 2 * x + 1) H3.out.1 hx1 3 0 (by omega) (by have := H3.out.2 _ hx1; omega)
                      rw [HP3.out] at t2
                      refine t2.mono ?_
                      clear t2
                      rintro e w6 ⟨rfl, s6, hS6, hp6, hL6⟩
                      have H6 := Lib.hid (And.intro hS6 (hL6 H3.out.2))
                      clear hS6 hp6 hL6
                      go_wp2_with fail
                      go_roundg (20 - (x + 1))
                      case measure => omega
                      case rel => exact ⟨x + 1, by omega, rfl, by go_num, s6, H6.out.1, fun j hj => by have := H6.out.2 j hj; omega⟩
                    · obtain rfl : x = 20 := by omega
                      go_wp2_with fail
                      go_roundg (40 - (y + 1))
                      case measure => omega
                      case rel => exact ⟨y + 1, by omega, by omega, rfl, by go_num, s5, HS5.out, fun j hj => by have := HL5.out j hj; omega⟩
                · go_wp2_with fail
                  go_ret
                  exact ⟨rfl, HS4.out.rows.below⟩
              · go_wp2_with fail
                go_ret
                exact ⟨rfl, HS4.out.rows.below⟩
  · have HB := Lib.hid (fun w => begin_any a0 z1 w b0)
    have hm0 : mayB z1 = false := by simpa using hm
    rw [hm0] at HB
    clear hm hm0 R
    go_enter Try.func5, Try.ntmps5
    go_wp2_with fail
    refine (known_any w).mono ?_
    rintro e w1 ⟨rfl, hO1⟩
    have HB1 := Lib.hid (hO1.below (B := w.heap.size) (fun _ h => h.elim) (Nat.le_refl _))
    clear hO1
    go_wp2_with fail
    go_loopg [7, 8] 20 (fun gk lv i wr => i = .int .i64 0 ∧ wr = w1)
    case atStart => exact ⟨rfl, rfl⟩
    case round =>
      obtain ⟨rfl, rfl⟩ := hrel
      go_wp2_with fail
      refine (HB.out _).mono ?_
      rintro e w2 ⟨a, rfl, ha, hon, hO, hnew, hat⟩
      have hb2 : w2.heap[a.p]? = some (.cells #[.pointer none, .pointer none] 33 (0, 0)) := by unfold PS.live at ha; rwa [if_neg (by rw [hon]; simp)] at ha
      have c0 : w2.cell? ⟨a.p, 0, none⟩ = some (.pointer none) := (blk_cell hb2 0).trans rfl
      have HBG := Lib.hid (Below.then_only HB1.out hO (Nat.le_refl _) (fun _ h => h.elim))
      clear ha hon hO hnew hat hb2
      go_wp2_with fail
      go_ret
      exact ⟨rfl, HBG.out⟩
end Go.Proofs.Ythiiobhogkenhaa.windowMany
