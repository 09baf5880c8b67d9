/- The walk of WindowOnce. -/
import Derived.Test.YthiiobhogkenhaaWinC
import Derived.Test.YthiiobhogkenhaaHarn
namespace Go.Proofs.Ythiiobhogkenhaa.windowOnce
open Go.RowKit Go.Proofs.Ythiiobhogkenhaa.K Go.Proofs.Ythiiobhogkenhaa.Win
set_option linter.unusedVariables false
def Law (w : World) (e : Ending) (w' : World) : Prop := e = .returned (.bool true) ∧ Below w.heap.size w w'

def vals (l : List Nat) : List Value := l.map fun (x : Nat) => Value.int .u64 (x : Int)
/-- what holds at the head of a round: the window, the list of what was taken -/
structure St (w wr : World) (g rb : Nat) (tv : Value) (m : M) : Prop where
  win : WinM wr g rb m
  own : wr.ownsRow 0 22 1 tv m.taken.length (vals m.taken)
  below : Below w.heap.size w wr
  hg : w.heap.size ≤ g
  hr : w.heap.size ≤ rb
  ht : ∀ b, tv.ownBlock = some b → w.heap.size ≤ b ∧ b ≠ g ∧ b ≠ rb
theorem St.drewN {w wr : World} {g rb : Nat} {tv : Value} {m : M} (h : St w wr g rb tv m) (n : Nat) : St w (wr.drewN n) g rb tv m :=
  ⟨h.win.drewN n, own_drewN h.own n, pw h.below n, h.hg, h.hr, h.ht⟩
where pw {B : Nat} {w W : World} (h : Below B w W) (n : Nat) : Below B w (W.drewN n) := ⟨h.os, h.tape, h.output, h.size, h.block⟩
theorem St.mark {w wr w2 : World} {g rb : Nat} {tv : Value} {m m2 : M} (h : St w wr g rb tv m) (hw : WinM w2 g rb m2) (ho : Only wr w2 (fun k => k = g ∨ k = rb)) :
    w2.ownsRow 0 22 1 tv m.taken.length (vals m.taken) ∧ Below w.heap.size w w2 :=
  ⟨own_keep h.own ho (fun i hi hh => by have := h.ht i hi; rcases hh with rfl | rfl; exact this.2.1 rfl; exact this.2.2 rfl),
   Below.then_only h.below ho (Nat.le_refl _) (fun k hk => by rcases hk with rfl | rfl; exact h.hg; exact h.hr)⟩
theorem St.grown {w w2 w3 : World} {g rb c : Nat} {tv v1 : Value} {m m2 : M} (hw : WinM w2 g rb m2) (hm : m2.taken = m.taken ++ [c]) (ho : w3.ownsRow 0 22 1 v1 (m.taken.length + 1) (vals m.taken ++ [.int .u64 (c : Int)]))
    (hO : Only w2 w3 (fun k => tv.ownBlock = some k)) (hat : v1.ownBlock = tv.ownBlock ∨ ∃ b, v1.ownBlock = some b ∧ w2.heap.size ≤ b) (hb : Below w.heap.size w w2) (hg : w.heap.size ≤ g) (hr : w.heap.size ≤ rb)
    (ht : ∀ b, tv.ownBlock = some b → w.heap.size ≤ b ∧ b ≠ g ∧ b ≠ rb) : St w w3 g rb v1 m2 := by
  have hlt := hw.lt
  refine ⟨hw.only hO (fun h => (ht g h).2.1 rfl) (fun h => (ht rb h).2.2 rfl), ?_, Below.then_only hb hO (Nat.le_refl _) (fun k hk => (ht k hk).1), hg, hr, fun b hb2 => ?_⟩
  · rw [hm]; simpa [vals] using ho
  · rcases hat with hat | ⟨b2, hat, hb3⟩
    · exact ht b (hat ▸ hb2)
    · rw [hat] at hb2
      injection hb2 with hb2
      subst hb2
      have := hb.size
      exact ⟨by omega, by omega, by omega⟩
def marks (m : M) (l : List Nat) : M := l.foldl M.mark m
theorem marks_snoc (m : M) (l : List Nat) (c : Nat) : marks m (l ++ [c]) = (marks m l).mark c := by simp [marks]
theorem take_snoc {l : List Nat} {i : Nat} (h : i < l.length) : l.take (i + 1) = l.take i ++ [l.getD i 0] := by
  rw [List.take_succ_eq_append_getElem h]; simp [h]
theorem marks_len (m : M) (l : List Nat) : (marks m l).taken.length ≤ m.taken.length + l.length := by
  induction l generalizing m with
  | nil => simp [marks]
  | cons c l ih =>
    have := ih (m.mark c)
    have h2 : (m.mark c).taken.length ≤ m.taken.length + 1 := by unfold M.mark; split <;> simp
    simp only [marks, List.foldl_cons, List.length_cons] at *
    omega

theorem takes_false {m : M} {c : Nat} : m.takes c = false ↔ ¬ (m.floor ≤ c ∧ ∀ t, t ∈ m.taken → t ≠ c ∧ (c < t → t - c < m.width)) := by
  rw [← M.takes_iff]; simp
theorem mark_floor (m : M) (c : Nat) : (m.mark c).floor = m.floor ∧ (m.mark c).width = m.width := by unfold M.mark; split <;> exact ⟨rfl, rfl⟩
theorem mark_taken (m : M) (c : Nat) : ∀ t, t ∈ m.taken → t ∈ (m.mark c).taken := by
  intro t ht; unfold M.mark; split
  · exact List.mem_append.2 (.inl ht)
  · exact ht
theorem takes_mono {m : M} {c : Nat} (d : Nat) (h : m.takes c = false) : (m.mark d).takes c = false := by
  rw [takes_false] at h ⊢
  intro h2
  refine h ⟨by rw [← (mark_floor m d).1]; exact h2.1, fun t ht => ?_⟩
  have := h2.2 t (mark_taken m d t ht)
  rw [(mark_floor m d).2] at this
  exact this
theorem takes_self (m : M) (c : Nat) : (m.mark c).takes c = false := by
  by_cases h : m.takes c = true
  · rw [takes_false]
    intro h2
    have h3 := (M.mark_top h).2.2
    exact (h2.2 c (by rw [h3]; simp)).1 rfl
  · have h0 : m.takes c = false := by simpa using h
    have : m.mark c = m := by simp [M.mark, h0]
    rw [this]; exact h0
theorem refused (m : M) (l : List Nat) (k : Nat) : k ≤ l.length → ∀ j, j < k → (marks m (l.take k)).takes (l.getD j 0) = false := by
  induction k with
  | zero => intro _ j hj; omega
  | succ k ih =>
    intro hk j hj
    rw [take_snoc (by omega), marks_snoc]
    by_cases h : j = k
    · subst h; exact takes_self _ _
    · exact takes_mono _ (ih (by omega) j (by omega))
theorem marks_floor (m : M) (l : List Nat) : (marks m l).floor = m.floor := by
  induction l generalizing m with
  | nil => rfl
  | cons c l ih => exact (ih (m.mark c)).trans (mark_floor m c).1
theorem any_len (m : M) : m.any = decide (0 < m.taken.length) := by
  unfold M.any; cases m.taken <;> simp
theorem vals_len (l : List Nat) : (vals l).length = l.length := by simp [vals]
theorem vals_get (l : List Nat) (j : Nat) (h : j < l.length) : (vals l).getD j default = .int .u64 (l.getD j 0 : Nat) := by simp [vals, h]
theorem St.form {w wr : World} {m : M} {tv : Value} (h : wr.ownsRow 0 22 1 tv m.taken.length (vals m.taken)) : ∃ TA tc, tv = .slice TA m.taken.length tc ∧ ∀ j, j < m.taken.length → ∃ tb, TA = some ⟨tb, 0, none⟩ ∧ wr.cell? ⟨tb, j, none⟩ = some (.int .u64 (m.taken.getD j 0 : Nat)) := by
  obtain ⟨TA, tc, hv, hc⟩ := own_form h
  refine ⟨TA, tc, hv, fun j hj => ?_⟩
  obtain ⟨tb, h1, h2⟩ := hc j hj
  exact ⟨tb, h1, h2.trans (by rw [vals_get _ _ hj])⟩

set_option maxRecDepth 100000 in
set_option maxHeartbeats 1000000 in
theorem walk (a0 : Nat) (b0 : a0 < 18446744073709551616) (z1 : Int) (l1 : -9223372036854775808 ≤ z1) (u1 : z1 ≤ 9223372036854775807) (A : Option Addr) (len cap : Nat) (xs : List Nat) (w : World) (R : ReadsU w A len xs) :
    Calls Try.prog 6 #[.int .u64 (a0 : Int), .int .i64 z1, .slice A len cap] w fun e w' => e = .returned (.bool true) ∧ Below w.heap.size w w' := by
  show Calls _ _ _ _ (Law w)
  by_cases hm : mayB z1 = true
  · have H0 := Lib.hid hm
    obtain ⟨n, hn, h1, h2, h3, h4⟩ := mayB_yes hm
    have HN := Lib.hid hn
    have HR := Lib.hid R
    have hmax := R.max
    clear hm hn h1 h2 h3 h4 R
    go_enter Try.func6, Try.ntmps6
    go_wp2_with fail
    refine (known_any w).mono ?_
    rintro e w1 ⟨rfl, hO1⟩
    go_wp2_with fail
    refine (win_new a0 n z1 _ HN.out b0 H0.out).mono ?_
    rintro e w2 ⟨g, rb, rfl, hW2, hO2, hg, hr⟩
    have HS : Hid (St w w2 g rb (.slice none 0 0) ⟨a0, n, []⟩) := ⟨hW2, ⟨by simp [vals], .inl ⟨rfl, rfl⟩⟩, (hO1.then_ hO2 (fun i hi => .inl hi)).below (fun _ h => h.elim) (Nat.le_refl _), Nat.le_trans hO1.size hg, Nat.le_trans hO1.size hr, fun b hb => by cases hb⟩
    clear hW2 hO1 hO2 hg hr
    go_wp2_with fail
    go_loopg [8, 9, 10] 2000 (fun gk tv tp i wr => ∃ k : Nat, k ≤ len ∧ k ≤ 2000 ∧ gk = 2000 - k ∧ i = .int .i64 (k : Int) ∧ tp = .int .u64 ((marks ⟨a0, n, []⟩ (xs.take k)).top : Int) ∧ St w wr g rb tv (marks ⟨a0, n, []⟩ (xs.take k)))
    case atStart => exact ⟨0, by omega, by omega, rfl, rfl, rfl, HS.out⟩
    case round =>
      obtain ⟨k, hk, hk2, rfl, rfl, rfl, hS⟩ := hrel
      by_cases hlt : k < len ∧ k < 2000
      · obtain ⟨hlt1, hlt2⟩ := hlt
        have hxl := HR.out.len
        have HX := Lib.hid (take_snoc (l := xs) (i := k) (by omega))
        have HM := Lib.hid (marks_snoc ⟨a0, n, []⟩ (xs.take k) (xs.getD k 0))
        have hxc : xs.getD k 0 < 18446744073709551616 := HR.out.lt _ (getD_mem _ _ (by omega))
        obtain ⟨ad, hA, hadl, hcell0⟩ := HR.out.at_ k hlt1
        subst hA
        have hcl : ∀ w2, Below w.heap.size w w2 → w2.cell? (ad.add k) = some (.int .u64 (xs.getD k 0 : Nat)) := fun w2 hb => (hb.cell (p := ad.add k) (by rw [block_add]; exact hadl)).trans hcell0
        have hml := marks_len ⟨a0, n, []⟩ (xs.take k)
        have hfl := marks_floor ⟨a0, n, []⟩ (xs.take k)
        have hml2 : (marks ⟨a0, n, []⟩ (xs.take k)).taken.length ≤ 2000 := by rw [List.length_take] at hml; simp at hml; omega
        clear hml hxl hcell0
        generalize hmm : marks ⟨a0, n, []⟩ (xs.take k) = m at *
        generalize hcc : xs.getD k 0 = c at *
        have HE := Lib.hid (And.intro hmm hcc)
        clear hmm hcc
        have HS := Lib.hid hS
        have hc1 := hcl _ hS.below
        have HC := Lib.hid hcl
        have HFl := Lib.hid hfl
        clear hcl hfl hS
        obtain ⟨TA, tc, rfl, htc⟩ := St.form (w := w) HS.out.own
        clear htc
        by_cases ht : m.takes c = true
        · have hnot := (M.takes_iff m c).1 ht
          have hge : a0 ≤ c := by have := hnot.1; rwa [HFl.out] at this
          obtain ⟨hk1, hk2, hk3⟩ := M.mark_top ht
          have t1 := win_takes g rb m c wr HS.out.win hxc
          have t2 := fun q => win_mark g rb m c (wr.drewN q) (HS.out.win.drewN q) hxc
          rw [ht] at t1
          simp only [ht] at t2
          have T1 := Lib.hid t1
          have T2 := Lib.hid t2
          have HN2 := Lib.hid hnot.2
          have HK1 := Lib.hid hk1
          have HK2 := Lib.hid hk2
          have HK3 := Lib.hid hk3
          clear ht hnot t1 t2 hk1 hk2 hk3
          go_wp2_with fail
          refine T1.out.mono ?_
          rintro e w' ⟨q1, rfl, rfl⟩
          go_wp2_with fail
          refine (T2.out _).mono ?_
          rintro e w2 ⟨rfl, hW2, hO2⟩
          have hs2 := (HS.out.drewN q1).mark hW2 hO2
          have HS2 : Hid (WinM w2 g rb (m.mark c) ∧ w2.ownsRow 0 22 1 (.slice TA m.taken.length tc) m.taken.length (vals m.taken) ∧ Below w.heap.size w w2) := ⟨hW2, hs2.1, hs2.2⟩
          have hc2 := HC.out _ hs2.2
          clear hs2 hW2 hO2 hc1
          go_wp2_with fail
          go_loopg [13] m.taken.length (fun gk i wi => ∃ j : Nat, j ≤ m.taken.length ∧ gk = m.taken.length - j ∧ i = .int .i64 (j : Int) ∧ ∃ q, wi = w2.drewN q)
          case atStart => exact ⟨0, by omega, rfl, rfl, 0, rfl⟩
          case round =>
            obtain ⟨j, hj, rfl, rfl, q, rfl⟩ := hrel
            by_cases hjl : j < m.taken.length
            · obtain ⟨TA', tc', hv, htc⟩ := St.form (w := w) HS2.out.2.1
              obtain ⟨tb, hTA, htcell⟩ := htc j hjl
              have hTT : TA' = TA := by injection hv with h1 h2 h3; exact h1.symm
              rw [hTT] at hTA
              subst hTA
              have hne : ((m.taken.getD j 0 : Nat) : Int) ≠ c := by have := (HN2.out _ (getD_mem _ _ hjl)).1; omega
              clear hv htc hTT
              generalize m.taken.getD j 0 = t at *
              have hne2 : ((t : Int) == c) = false := beq_eq_false_iff_ne.2 hne
              go_wp2_with fail
              go_quiet (fail)
              go_wp2_with fail
              go_roundg (m.taken.length - (j + 1))
              case measure => omega
              case rel => exact ⟨j + 1, by omega, rfl, by go_num, _, rfl⟩
            · have HOq : Hid ((w2.drewN q).ownsRow 0 22 1 (.slice TA m.taken.length tc) (vals m.taken).length (vals m.taken)) := by rw [vals_len]; exact own_drewN HS2.out.2.1 q
              have hl8 : ((vals m.taken).length + 1) * 8 ≤ 140737488355328 := by rw [vals_len]; omega
              have hcase : (((m.taken.length : Int) + 1 == 1) = true ∧ (m.mark c).top = c) ∨ (((m.taken.length : Int) + 1 == 1) = false ∧ m.top < c ∧ (m.mark c).top = c) ∨ (((m.taken.length : Int) + 1 == 1) = false ∧ ¬ m.top < c ∧ (m.mark c).top = m.top) := by
                rw [HK1.out]
                by_cases hL : m.taken.length = 0
                · refine .inl ⟨beq_iff_eq.2 (by omega), ?_⟩
                  have : m.taken = [] := List.eq_nil_of_length_eq_zero hL
                  simp [M.top, this, topOf]
                · have hL1 : ((m.taken.length : Int) + 1 == 1) = false := beq_eq_false_iff_ne.2 (by omega)
                  by_cases hgt : m.top < c
                  · exact .inr (.inl ⟨hL1, hgt, by omega⟩)
                  · exact .inr (.inr ⟨hL1, hgt, by omega⟩)
              have HCS := Lib.hid hcase
              clear hcase
              rcases HCS.out with ⟨h1, hT⟩ | ⟨h1, h2, hT⟩ | ⟨h1, h2, hT⟩
              all_goals
                have HT := Lib.hid hT
                clear hT HCS
                go_wp2_with (at_builtin; refine ap1 rfl (.tmp 83) (.tmp 88) 42 22 (.int .u64 0) 8 rfl Try.underlying42 info_u64r rfl (by decide) (.slice TA m.taken.length tc) (vals m.taken) (.int .u64 (c : Int)) rfl rfl rfl HOq.out hl8 ?_; intro v1 w3 ho hO hat; rw [vals_len] at ho; obtain ⟨A1, cap1, rfl, hc1⟩ := own_form ho; clear hc1; have HO1 := Lib.hid ho; have HA1 := Lib.hid hat; have HO3 := Lib.hid hO; clear ho hat hO; have hc3 := HC.out _ (Below.then_only (St.drewN.pw HS2.out.2.2 q) HO3.out (Nat.le_refl _) (fun k hk => (HS.out.ht k hk).1)))
                have HS3 : Hid (St w w3 g rb (.slice A1 (m.taken.length + 1) cap1) (m.mark c)) := St.grown (HS2.out.1.drewN q) HK3.out HO1.out HO3.out HA1.out (St.drewN.pw HS2.out.2.2 q) HS.out.hg HS.out.hr HS.out.ht
                have t3 := win_top g rb (m.mark c) w3 HS3.out.win
                rw [HK2.out, HT.out] at t3
                refine t3.mono ?_
                clear t3
                rintro e w' ⟨q3, rfl, rfl⟩
                go_wp2_with fail
                go_roundg (2000 - (k + 1))
                case measure => omega
                case rel =>
                  refine ⟨k + 1, by omega, by omega, rfl, by go_num, ?_, ?_⟩
                  · rw [HX.out, HM.out, HT.out]
                  · rw [HX.out, HM.out]; exact HS3.out.drewN _
        · have ht0 : m.takes c = false := by simpa using ht
          have hmk : m.mark c = m := by simp [M.mark, ht0]
          have t1 := win_takes g rb m c wr HS.out.win hxc
          have t2 := fun q => win_mark g rb m c (wr.drewN q) (HS.out.win.drewN q) hxc
          rw [ht0] at t1
          simp only [ht0, hmk] at t2
          have T1 := Lib.hid t1
          have T2 := Lib.hid t2
          have HMK := Lib.hid hmk
          clear ht ht0 t1 t2 hmk
          go_wp2_with fail
          refine T1.out.mono ?_
          rintro e w' ⟨q1, rfl, rfl⟩
          go_wp2_with fail
          refine (T2.out _).mono ?_
          rintro e w2 ⟨rfl, hW2, hO2⟩
          have hs2 := (HS.out.drewN q1).mark hW2 hO2
          have HS2 : Hid (St w w2 g rb (.slice TA m.taken.length tc) m) := ⟨hW2, hs2.1, hs2.2, HS.out.hg, HS.out.hr, HS.out.ht⟩
          have hc2 := HC.out _ hs2.2
          clear hs2 hW2 hO2 hc1
          go_wp2_with fail
          go_loopg [13] m.taken.length (fun gk i wi => ∃ j : Nat, j ≤ m.taken.length ∧ gk = m.taken.length - j ∧ i = .int .i64 (j : Int) ∧ ∃ q, wi = w2.drewN q)
          case atStart => exact ⟨0, by omega, rfl, rfl, 0, rfl⟩
          case round =>
            obtain ⟨j, hj, rfl, rfl, q, rfl⟩ := hrel
            by_cases hjl : j < m.taken.length
            · go_wp2_with fail
              go_quiet (fail)
              go_wp2_with fail
              go_roundg (m.taken.length - (j + 1))
              case measure => omega
              case rel => exact ⟨j + 1, by omega, rfl, by go_num, _, rfl⟩
            · go_wp2_with fail
              refine (win_top g rb m _ (HS2.out.win.drewN q)).mono ?_
              rintro e w' ⟨q3, rfl, rfl⟩
              have hany := any_len m
              go_wp2_with fail
              go_roundg (2000 - (k + 1))
              case measure => omega
              case rel =>
                refine ⟨k + 1, by omega, by omega, rfl, by go_num, ?_, ?_⟩
                · rw [HX.out, HM.out, HMK.out]
                · rw [HX.out, HM.out, HMK.out]; exact HS2.out.drewN _
      · have hxl := HR.out.len
        have href := refused ⟨a0, n, []⟩ xs k (by omega)
        have hfl := marks_floor ⟨a0, n, []⟩ (xs.take k)
        have hre : ∀ j, j < len → j < 2000 → j < k := fun j h1 h2 => by omega
        have HRE := Lib.hid hre
        have HREF := Lib.hid href
        have HFl := Lib.hid hfl
        have HS := Lib.hid hS
        have hbl := hS.below
        have HBL := Lib.hid hbl
        clear hre href hfl hS hbl hxl
        generalize marks ⟨a0, n, []⟩ (xs.take k) = m at *
        by_cases hk3 : k < len
        · have hk4 : ¬ k < 2000 := fun h => hlt ⟨hk3, h⟩
          go_wp2_with fail
          go_loopg [16] 2000 (fun gk i wi => ∃ j : Nat, j ≤ len ∧ j ≤ 2000 ∧ gk = 2000 - j ∧ i = .int .i64 (j : Int) ∧ ∃ q, wi = wr.drewN q)
          case atStart => exact ⟨0, by omega, by omega, rfl, rfl, 0, rfl⟩
          case round =>
            obtain ⟨j, hj, hj2, rfl, rfl, q, rfl⟩ := hrel
            by_cases hjl : j < len
            · by_cases hjl2 : j < 2000
              · obtain ⟨ad, hA, hadl, hcell0⟩ := HR.out.at_ j hjl
                subst hA
                have hcl : wr.cell? (ad.add j) = some (.int .u64 (xs.getD j 0 : Nat)) := (HBL.out.cell (p := ad.add j) (by rw [block_add]; exact hadl)).trans hcell0
                have hxc : xs.getD j 0 < 18446744073709551616 := HR.out.lt _ (getD_mem _ _ (by have := HR.out.len; omega))
                have t1 := win_takes g rb m (xs.getD j 0) (wr.drewN q) (HS.out.win.drewN q) hxc
                rw [HREF.out j (HRE.out j hjl hjl2)] at t1
                have T1 := Lib.hid t1
                clear t1 hcell0 hadl
                generalize xs.getD j 0 = c at *
                go_wp2_with fail
                refine T1.out.mono ?_
                rintro e w' ⟨q1, rfl, rfl⟩
                go_wp2_with fail
                go_roundg (2000 - (j + 1))
                case measure => omega
                case rel => exact ⟨j + 1, by omega, by omega, rfl, by go_num, _, rfl⟩
              · go_wp2_with fail
                refine (win_floor g rb m _ (HS.out.win.drewN q)).mono ?_
                rintro e w' ⟨rfl, rfl⟩
                have hff : m.floor = a0 := HFl.out
                go_wp2_with fail
                go_ret
                exact ⟨rfl, St.drewN.pw HBL.out q⟩
            · go_wp2_with fail
              refine (win_floor g rb m _ (HS.out.win.drewN q)).mono ?_
              rintro e w' ⟨rfl, rfl⟩
              have hff : m.floor = a0 := HFl.out
              go_wp2_with fail
              go_ret
              exact ⟨rfl, St.drewN.pw HBL.out q⟩
        · go_wp2_with fail
          go_loopg [16] 2000 (fun gk i wi => ∃ j : Nat, j ≤ len ∧ j ≤ 2000 ∧ gk = 2000 - j ∧ i = .int .i64 (j : Int) ∧ ∃ q, wi = wr.drewN q)
          case atStart => exact ⟨0, by omega, by omega, rfl, rfl, 0, rfl⟩
          case round =>
            obtain ⟨j, hj, hj2, rfl, rfl, q, rfl⟩ := hrel
            by_cases hjl : j < len
            · by_cases hjl2 : j < 2000
              · obtain ⟨ad, hA, hadl, hcell0⟩ := HR.out.at_ j hjl
                subst hA
                have hcl : wr.cell? (ad.add j) = some (.int .u64 (xs.getD j 0 : Nat)) := (HBL.out.cell (p := ad.add j) (by rw [block_add]; exact hadl)).trans hcell0
                have hxc : xs.getD j 0 < 18446744073709551616 := HR.out.lt _ (getD_mem _ _ (by have := HR.out.len; omega))
                have t1 := win_takes g rb m (xs.getD j 0) (wr.drewN q) (HS.out.win.drewN q) hxc
                rw [HREF.out j (HRE.out j hjl hjl2)] at t1
                have T1 := Lib.hid t1
                clear t1 hcell0 hadl
                generalize xs.getD j 0 = c at *
                go_wp2_with fail
                refine T1.out.mono ?_
                rintro e w' ⟨q1, rfl, rfl⟩
                go_wp2_with fail
                go_roundg (2000 - (j + 1))
                case measure => omega
                case rel => exact ⟨j + 1, by omega, by omega, rfl, by go_num, _, rfl⟩
              · exfalso; omega
            · go_wp2_with fail
              refine (win_floor g rb m _ (HS.out.win.drewN q)).mono ?_
              rintro e w' ⟨rfl, rfl⟩
              have hff : m.floor = a0 := HFl.out
              go_wp2_with fail
              go_ret
              exact ⟨rfl, St.drewN.pw HBL.out q⟩
  · have hm0 : mayB z1 = false := by simpa using hm
    have H0 := Lib.hid hm0
    clear hm
    rcases mayB_cases hm0 with h1 | ⟨h1, h2⟩ | ⟨h1, h2, h3⟩
    all_goals
      clear hm0
      go_enter Try.func6, Try.ntmps6
      go_wp2_with fail
      refine (known_any w).mono ?_
      rintro e w1 ⟨rfl, hO1⟩
      go_wp2_with fail
      refine (new_no a0 z1 _ b0 H0.out).mono ?_
      rintro e w' ⟨rfl, rfl⟩
      go_wp2
      go_ret
      exact ⟨rfl, hO1.below (fun _ h => h.elim) (Nat.le_refl _)⟩
end Go.Proofs.Ythiiobhogkenhaa.windowOnce
