/- The walk of WindowPlays. -/
import Derived.Test.YthiiobhogkenhaaPairR
import Derived.Test.YthiiobhogkenhaaHarn
namespace Go.Proofs.Ythiiobhogkenhaa.windowPlays
open Go.RowKit Go.Proofs.Ythiiobhogkenhaa.K Go.Proofs.Ythiiobhogkenhaa.Win
set_option linter.unusedVariables false
def Law (w : World) (e : Ending) (w' : World) : Prop := e = .returned (.bool true) ∧ Below w.heap.size w w'
/-- a slice of Op that came in -/
structure ReadsO (w : World) (A : Option Addr) (n : Nat) (xs : List (Int × Bool × Nat)) : Prop where
  len : xs.length = n
  max : n ≤ 9223372036854775807
  lt : ∀ x, x ∈ xs → x.2.2 < 18446744073709551616
  at_ : ∀ i, i < n → ∃ bk off, A = some ⟨bk, off, none⟩ ∧ bk < w.heap.size ∧ w.cell? ⟨bk, off + i * 3, none⟩ = some (.int .i64 (xs.getD i (0, false, 0)).1) ∧ w.cell? ⟨bk, off + i * 3 + 1, none⟩ = some (.bool (xs.getD i (0, false, 0)).2.1) ∧ w.cell? ⟨bk, off + i * 3 + 2, none⟩ = some (.int .u64 ((xs.getD i (0, false, 0)).2.2 : Int))
/-- two pairs -/
def two (a b : PS) : Nat → PS := fun i => if i = 0 then a else b
structure St (w wr : World) (pa pb : Nat) (s : Nat → PS) (L : Nat) : Prop where
  rows : Win.Rows w wr 2 s
  p0 : (s 0).p = pa
  p1 : (s 1).p = pb
  len : ∀ j, j < 2 → (s j).on = true → (s j).m.taken.length ≤ L

theorem St.step {w wr w2 : World} {pa pb i L : Nat} {s : Nat → PS} {m' : M} {v' : Value} (h : St w wr pa pb s L) (hi : i < 2) (ho : (s i).on = true) (hl : Live w2 (s i).p (s i).g (s i).rb (s i).rg v' m') (k : Only wr w2 (Win.foot (s i).g (s i).rb (s i).rg (s i).v))
    (hat : v'.ownBlock = (s i).v.ownBlock ∨ ∃ b, v'.ownBlock = some b ∧ wr.heap.size ≤ b) (hm : m'.taken.length ≤ (s i).m.taken.length + 1) : St w w2 pa pb (fun j => if j = i then { s i with v := v', m := m' } else s j) (L + 1) := by
  refine ⟨h.rows.step hi ho hl k hat, ?_, ?_, fun j hj hon => ?_⟩
  · show PS.p (if 0 = i then { s i with v := v', m := m' } else s 0) = pa
    split
    · rename_i e; subst e; exact h.p0
    · exact h.p0
  · show PS.p (if 1 = i then { s i with v := v', m := m' } else s 1) = pb
    split
    · rename_i e; subst e; exact h.p1
    · exact h.p1
  · have hon2 : PS.on (if j = i then { s i with v := v', m := m' } else s j) = true := hon
    show (PS.m (if j = i then { s i with v := v', m := m' } else s j)).taken.length ≤ L + 1
    split
    · have := h.len i hi ho; show m'.taken.length ≤ _; omega
    · rename_i hji
      rw [if_neg hji] at hon2
      have := h.len j hj hon2; omega

set_option maxRecDepth 100000 in
set_option maxHeartbeats 1000000 in
theorem walk (a0 : Nat) (b0 : a0 < 18446744073709551616) (a1 : Nat) (b1 : a1 < 18446744073709551616) (z2 : Int) (l2 : -9223372036854775808 ≤ z2) (u2 : z2 ≤ 9223372036854775807) (z3 : Int) (l3 : -9223372036854775808 ≤ z3) (u3 : z3 ≤ 9223372036854775807) (A : Option Addr) (len cap : Nat) (xs : List (Int × Bool × Nat)) (w : World) (R : ReadsO w A len xs) :
    Calls Try.prog 3 #[.int .u64 (a0 : Int), .int .u64 (a1 : Int), .int .i64 z2, .int .i64 z3, .slice A len cap] w fun e w' => e = .returned (.bool true) ∧ Below w.heap.size w w' := by
  show Calls _ _ _ _ (Law w)
  have HB := Lib.hid (fun w => begin_any a0 z2 w b0)
  have HB2 := Lib.hid (fun w => begin_any a1 z3 w b1)
  have HR := Lib.hid R
  have hmax := R.max
  clear R
  go_enter Try.func3, Try.ntmps3
  go_wp2_with fail
  refine (known_any w).mono ?_
  rintro e w1 ⟨rfl, hO1⟩
  have HB1 := Lib.hid (hO1.below (B := w.heap.size) (fun _ h => h.elim) (Nat.le_refl _))
  clear hO1
  go_wp2_with fail
  refine (HB.out _).mono ?_
  rintro e w2 ⟨a, rfl, ha, hon, hO, hnew, hat⟩
  have HA := Lib.hid (And.intro ha (And.intro hO (And.intro hnew hat)))
  clear ha hon hO hnew hat
  go_wp2_with fail
  refine (HB2.out _).mono ?_
  rintro e w3 ⟨b, rfl, ha, hon, hO, hnew, hat⟩
  have HBb := Lib.hid (And.intro ha (And.intro hO (And.intro hnew hat)))
  clear ha hon hO hnew hat
  have HS : Hid (St w w3 a.p b.p (fun i => if i = 1 then b else a) 0) := by
    obtain ⟨e1, e2, e3, e4⟩ := HA.out
    obtain ⟨f1, f2, f3, f4⟩ := HBb.out
    have r0 : Win.Rows w w1 0 (fun _ => a) := ⟨fun i hi => by omega, fun i j hi => by omega, HB1.out, fun i hi => by omega⟩
    have r1 := r0.push e2 e1 e3
    have r2 := r1.push f2 f1 f3
    have hs : (fun i => if i = 0 + 1 then b else (fun i => if i = 0 then a else a) i) = fun i => if i = 1 then b else a := by
      funext i; by_cases h : i = 1 <;> simp [h]
    rw [hs] at r2
    refine ⟨r2, rfl, rfl, fun j hj _ => ?_⟩
    by_cases h : j = 1
    · subst h; show b.m.taken.length ≤ 0; rw [f4]; simp
    · show PS.m (if j = 1 then b else a) |>.taken.length |> (· ≤ 0)
      rw [if_neg h, e4]; simp
  go_wp2_with fail
  go_loopg [15] 2000 (fun gk i wr => ∃ k : Nat, k ≤ len ∧ k ≤ 2000 ∧ gk = 2000 - k ∧ i = .int .i64 (k : Int) ∧ ∃ s, St w wr a.p b.p s k)
  case atStart => exact ⟨0, by omega, by omega, rfl, rfl, _, HS.out⟩
  case round =>
    obtain ⟨k, hk, hk2, rfl, rfl, s, hS⟩ := hrel
    have HS2 := Lib.hid hS
    clear hS
    by_cases hlt1 : k < len
    · by_cases hlt2 : k < 2000
      · obtain ⟨bk, off, hA, hadl, hcell0, hcell1, hcell2⟩ := HR.out.at_ k hlt1
        subst hA
        have hxc : (xs.getD k (0, false, 0)).2.2 < 18446744073709551616 := HR.out.lt _ (by have := HR.out.len; simp only [List.getD_eq_getElem?_getD, List.getElem?_eq_getElem (show k < xs.length by omega), Option.getD_some]; exact List.getElem_mem _)
        have hlt3 : (k : Int) < 2000 := by omega
        generalize xs.getD k (0, false, 0) = x at *
        obtain ⟨kind, second, c⟩ := x
        have hcl : ∀ w2, Below w.heap.size w w2 → ∀ j, w2.cell? ⟨bk, j, none⟩ = w.cell? ⟨bk, j, none⟩ := fun w2 hb j => hb.cell (p := ⟨bk, j, none⟩) hadl
        have d0 := (hcl _ HS2.out.rows.below _).trans hcell0
        have d1 := (hcl _ HS2.out.rows.below _).trans hcell1
        have d2 := (hcl _ HS2.out.rows.below _).trans hcell2
        have HCL := Lib.hid (fun w2 hb => And.intro ((hcl w2 hb _).trans hcell0) ((hcl w2 hb _).trans hcell2))
        clear hcl hcell0 hcell1 hcell2
        simp only at d0 d1 d2 hxc
        have H0 := HS2.out.rows.live 0 (by omega)
        have H1 := HS2.out.rows.live 1 (by omega)
        cases second
        · have hp : (s 0).p = a.p := HS2.out.p0
          by_cases hon : (s 0).on = true
          · have hL : Live wr (s 0).p (s 0).g (s 0).rb (s 0).rg (s 0).v (s 0).m := by have h := H0; unfold PS.live at h; rwa [if_pos hon] at h
            have c0 := hL.c0
            rw [hp] at c0
            have T1 := Lib.hid (fun q => plays_any _ _ _ _ _ _ kind c _ (hL.drewN q) hxc (by have := HS2.out.len 0 (by omega) hon; omega))
            rw [hp] at T1
            have HON := Lib.hid hon
            have HP := Lib.hid hp
            clear hL hon hp H0 H1
            go_wp2_with fail
            go_region_held3 (fun w' => w'.cell? ⟨bk, off + k * 3, none⟩ = some (.int .i64 kind) ∧ w'.cell? ⟨bk, off + k * 3 + 2, none⟩ = some (.int .u64 (c : Int))) (first | go_keep | exact F.out)
              (first
              | (go_at_call 14; refine (T1.out _).mono ?_; rintro e w5 ⟨rfl, v', m', hl, ho, hat, hm⟩; rw [← HP.out] at hl; have H3 := Lib.hid (HS2.out.step (i := 0) (by omega) HON.out hl ho.of_drewN hat hm); have F := Lib.hid (HCL.out _ H3.out.rows.below); clear hl ho hat hm))
            go_wp2_with fail
            go_roundg (2000 - (k + 1))
            case measure => omega
            case rel => exact ⟨k + 1, by omega, by omega, rfl, by go_num, _, H3.out⟩
          · have hb2 : wr.heap[(s 0).p]? = some (.cells #[.pointer none, .pointer none] 33 (0, 0)) := by have h := H0; unfold PS.live at h; rwa [if_neg hon] at h
            have c0 : wr.cell? ⟨(s 0).p, 0, none⟩ = some (.pointer none) := (blk_cell hb2 0).trans rfl
            rw [hp] at c0
            clear hb2 hon hp H0 H1
            go_wp2_with fail
            go_roundg (2000 - (k + 1))
            case measure => omega
            case rel => exact ⟨k + 1, by omega, by omega, rfl, by go_num, s, HS2.out.rows, HS2.out.p0, HS2.out.p1, fun j hj ho => by have := HS2.out.len j hj ho; omega⟩
        · have hp : (s 1).p = b.p := HS2.out.p1
          by_cases hon : (s 1).on = true
          · have hL : Live wr (s 1).p (s 1).g (s 1).rb (s 1).rg (s 1).v (s 1).m := by have h := H1; unfold PS.live at h; rwa [if_pos hon] at h
            have c0 := hL.c0
            rw [hp] at c0
            have T1 := Lib.hid (fun q => plays_any _ _ _ _ _ _ kind c _ (hL.drewN q) hxc (by have := HS2.out.len 1 (by omega) hon; omega))
            rw [hp] at T1
            have HON := Lib.hid hon
            have HP := Lib.hid hp
            clear hL hon hp H0 H1
            go_wp2_with fail
            go_region_held3 (fun w' => w'.cell? ⟨bk, off + k * 3, none⟩ = some (.int .i64 kind) ∧ w'.cell? ⟨bk, off + k * 3 + 2, none⟩ = some (.int .u64 (c : Int))) (first | go_keep | exact F.out)
              (first
              | (go_at_call 14; refine (T1.out _).mono ?_; rintro e w5 ⟨rfl, v', m', hl, ho, hat, hm⟩; rw [← HP.out] at hl; have H3 := Lib.hid (HS2.out.step (i := 1) (by omega) HON.out hl ho.of_drewN hat hm); have F := Lib.hid (HCL.out _ H3.out.rows.below); clear hl ho hat hm))
            go_wp2_with fail
            go_roundg (2000 - (k + 1))
            case measure => omega
            case rel => exact ⟨k + 1, by omega, by omega, rfl, by go_num, _, H3.out⟩
          · have hb2 : wr.heap[(s 1).p]? = some (.cells #[.pointer none, .pointer none] 33 (0, 0)) := by have h := H1; unfold PS.live at h; rwa [if_neg hon] at h
            have c0 : wr.cell? ⟨(s 1).p, 0, none⟩ = some (.pointer none) := (blk_cell hb2 0).trans rfl
            rw [hp] at c0
            clear hb2 hon hp H0 H1
            go_wp2_with fail
            go_roundg (2000 - (k + 1))
            case measure => omega
            case rel => exact ⟨k + 1, by omega, by omega, rfl, by go_num, s, HS2.out.rows, HS2.out.p0, HS2.out.p1, fun j hj ho => by have := HS2.out.len j hj ho; omega⟩
      · go_wp2_with fail
        go_ret
        exact ⟨rfl, HS2.out.rows.below⟩
    · go_wp2_with fail
      go_ret
      exact ⟨rfl, HS2.out.rows.below⟩
end Go.Proofs.Ythiiobhogkenhaa.windowPlays
