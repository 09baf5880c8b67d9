/- The program's window and the document's beside one another: begin and plays. -/
import Derived.Test.YthiiobhogkenhaaWinP
import Derived.Deep.RegionHeld3
namespace Go.Proofs.Ythiiobhogkenhaa.Win
open Go.RowKit Go.Proofs.Ythiiobhogkenhaa.K
set_option linter.unusedVariables false

/-- a pair that is there, at block p -/
structure Live (w : World) (p g rb rg : Nat) (v : Value) (m : M) : Prop where
  b : w.heap[p]? = some (.cells #[.pointer (some ⟨g, 0, none⟩), .pointer (some ⟨rg, 0, none⟩)] 33 (0, 0))
  win : WinM w g rb m
  ref : Ref w rg v m
  ne : ∀ i, v.ownBlock = some i → i ≠ rb
theorem Live.c0 {w : World} {p g rb rg : Nat} {v : Value} {m : M} (h : Live w p g rb rg v m) : w.cell? ⟨p, 0, none⟩ = some (.pointer (some ⟨g, 0, none⟩)) := (blk_cell h.b 0).trans rfl
theorem Live.c1 {w : World} {p g rb rg : Nat} {v : Value} {m : M} (h : Live w p g rb rg v m) : w.cell? ⟨p, 1, none⟩ = some (.pointer (some ⟨rg, 0, none⟩)) := (blk_cell h.b 1).trans rfl
theorem Live.drewN {w : World} {p g rb rg : Nat} {v : Value} {m : M} (h : Live w p g rb rg v m) (n : Nat) : Live (w.drewN n) p g rb rg v m := ⟨h.b, h.win.drewN n, h.ref.drewN n, h.ne⟩
/-- what a pair's call may write -/
def foot (g rb rg : Nat) (v : Value) (k : Nat) : Prop := k = g ∨ k = rb ∨ k = rg ∨ v.ownBlock = some k
theorem Live.types {w : World} {p g rb rg : Nat} {v : Value} {m : M} (h : Live w p g rb rg v m) :
    p ≠ g ∧ p ≠ rb ∧ p ≠ rg ∧ v.ownBlock ≠ some p ∧ g ≠ rg ∧ v.ownBlock ≠ some g ∧ rb ≠ rg ∧ g ≠ rb := by
  obtain ⟨s, a, _⟩ := h.win
  refine ⟨blk_ne h.b a.b (by decide), blk_ne h.b a.r (by decide), blk_ne h.b h.ref.b (by decide), fun e => ?_, blk_ne a.b h.ref.b (by decide), fun e => ?_, blk_ne a.r h.ref.b (by decide), a.ne⟩
  · obtain ⟨cs, hb⟩ := own_blk h.ref.own e
    exact blk_ne hb h.b (by decide) rfl
  · obtain ⟨cs, hb⟩ := own_blk h.ref.own e
    exact blk_ne hb a.b (by decide) rfl
theorem Live.only {w w' : World} {p g rb rg : Nat} {v : Value} {m : M} {T : Nat → Prop} (h : Live w p g rb rg v m) (k : Only w w' T) (h0 : ¬ T p) (h1 : ∀ i, foot g rb rg v i → ¬ T i) : Live w' p g rb rg v m :=
  ⟨k.blk h.b h0, h.win.only k (h1 g (.inl rfl)) (h1 rb (.inr (.inl rfl))), h.ref.only k (h1 rg (.inr (.inr (.inl rfl)))) (fun i hi => h1 i (.inr (.inr (.inr hi)))), h.ne⟩

/-- what plays answers -/
def Plays (w : World) (p g rb rg : Nat) (v : Value) (m : M) (e : Ending) (w' : World) : Prop :=
  e = .returned (.bool true) ∧ ∃ v', Live w' p g rb rg v' m ∧ Only w w' (foot g rb rg v) ∧ (v'.ownBlock = v.ownBlock ∨ ∃ b, v'.ownBlock = some b ∧ w.heap.size ≤ b)
theorem Plays.cell0 {w w' : World} {p g rb rg : Nat} {v : Value} {m : M} {e : Ending} (h : Plays w p g rb rg v m e w') : w'.cell? ⟨p, 0, none⟩ = some (.pointer (some ⟨g, 0, none⟩)) := by obtain ⟨_, v', h, _⟩ := h; exact h.c0
theorem Plays.cell1 {w w' : World} {p g rb rg : Nat} {v : Value} {m : M} {e : Ending} (h : Plays w p g rb rg v m e w') : w'.cell? ⟨p, 1, none⟩ = some (.pointer (some ⟨rg, 0, none⟩)) := by obtain ⟨_, v', h, _⟩ := h; exact h.c1
/-- behind the program's Mark -/
def Half (w w1 : World) (p g rb rg : Nat) (v : Value) (m m1 : M) : Prop :=
  w1.heap[p]? = some (.cells #[.pointer (some ⟨g, 0, none⟩), .pointer (some ⟨rg, 0, none⟩)] 33 (0, 0)) ∧ WinM w1 g rb m1 ∧ Ref w1 rg v m ∧ Only w w1 (foot g rb rg v)
theorem Live.half {w w1 : World} {p g rb rg : Nat} {v : Value} {m m1 : M} (h : Live w p g rb rg v m) (hw : WinM w1 g rb m1) (ho : Only w w1 (fun k => k = g ∨ k = rb)) : Half w w1 p g rb rg v m m1 := by
  obtain ⟨t1, t2, t3, t4, t5, t6, t7, t8⟩ := h.types
  refine ⟨ho.blk h.b (fun e => e.elim t1 t2), hw, h.ref.only ho (fun e => e.elim (fun e => t5 e.symm) (fun e => t7 e.symm)) (fun i hi e => ?_), ho.mono (fun k _ e => e.elim .inl (fun e => .inr (.inl e)))⟩
  rcases e with rfl | rfl
  · exact t6 hi
  · exact h.ne _ hi rfl
theorem Half.whole {w w1 w2 : World} {p g rb rg : Nat} {v v' : Value} {m m1 : M} (hL : Live w p g rb rg v m) (h : Half w w1 p g rb rg v m m1) (hr : Ref w2 rg v' m1) (ho : Only w1 w2 (fun k => k = rg ∨ v.ownBlock = some k)) (hat : v'.ownBlock = v.ownBlock ∨ ∃ b, v'.ownBlock = some b ∧ w1.heap.size ≤ b) :
    Plays w p g rb rg v m1 (.returned (.bool true)) w2 := by
  obtain ⟨t1, t2, t3, t4, t5, t6, t7, t8⟩ := hL.types
  obtain ⟨h1, h2, h3, h4⟩ := h
  have hlt := h2.lt
  have hz := h4.size
  refine ⟨rfl, v', ⟨ho.blk h1 (fun e => e.elim t3 t4), h2.only ho (fun e => e.elim t5 t6) (fun e => e.elim t7 (fun e => hL.ne _ e rfl)), hr, fun i hi => ?_⟩, h4.then_ ho (fun i hi => .inl (hi.elim (fun e => .inr (.inr (.inl e))) (fun e => .inr (.inr (.inr e))))), ?_⟩
  · rcases hat with hat | ⟨b, hat, hb⟩
    · exact hL.ne i (hat ▸ hi)
    · rw [hat] at hi; injection hi with hi; omega
  · rcases hat with hat | ⟨b, hat, hb⟩
    · exact .inl hat
    · exact .inr ⟨b, hat, by omega⟩

set_option maxRecDepth 100000 in
theorem plays_mark (p g rb rg : Nat) (v : Value) (m : M) (c : Nat) (w : World) (h : Live w p g rb rg v m) (hc : c < 18446744073709551616) (hn : m.taken.length ≤ 1048576) :
    Calls Try.prog 14 #[.pointer (some ⟨p, 0, none⟩), .int .i64 1, .int .u64 (c : Int)] w (Plays w p g rb rg v (m.mark c)) := by
  have c0 := h.c0
  have c1 := h.c1
  have HL := Lib.hid h
  have T1 : Hid (∀ n, Calls Try.prog 20 #[.pointer (some ⟨g, 0, none⟩), .int .u64 (c : Int)] (w.drewN n) (MarkM (w.drewN n) g rb (m.takes c) (m.mark c))) := fun n => win_mark g rb m c _ (HL.out.win.drewN n) hc
  clear h
  go_enter Try.func14, Try.ntmps14
  go_wp2_with fail
  go_region_held3 (fun w' => w'.cell? ⟨p, 0, none⟩ = some (.pointer (some ⟨g, 0, none⟩)) ∧ w'.cell? ⟨p, 1, none⟩ = some (.pointer (some ⟨rg, 0, none⟩))) (first | go_keep | exact ⟨d0, d1⟩ | exact ⟨f0, f1⟩)
    (first
    | (go_at_call 20; refine (T1.out _).mono ?_; rintro e w1 ⟨rfl, hw1, ho1⟩; have HH := Lib.hid (HL.out.half hw1 ho1.of_drewN); have d1 : w1.cell? ⟨p, 1, none⟩ = some (.pointer (some ⟨rg, 0, none⟩)) := (blk_cell HH.out.1 1).trans rfl; have d0 : w1.cell? ⟨p, 0, none⟩ = some (.pointer (some ⟨g, 0, none⟩)) := (blk_cell HH.out.1 0).trans rfl; clear hw1 ho1)
    | (go_at_call 22; refine (ref_mark rg v m c _ HH.out.2.2.1 hc hn).mono ?_; rintro e w2 ⟨rfl, v', hr, ho, hat⟩; have HP := Lib.hid (Half.whole HL.out HH.out hr ho hat); have f0 := HP.out.cell0; have f1 := HP.out.cell1; clear hr ho hat))
  go_wp2_with fail
  go_ret
  simpa using HP.out

theorem same_beq (a : Bool) : (a == a) = true := by cases a <;> rfl
set_option maxRecDepth 100000 in
theorem plays_takes (p g rb rg : Nat) (v : Value) (m : M) (c : Nat) (w : World) (h : Live w p g rb rg v m) (hc : c < 18446744073709551616) :
    Calls Try.prog 14 #[.pointer (some ⟨p, 0, none⟩), .int .i64 2, .int .u64 (c : Int)] w (Quiet (.bool true) w) := by
  have c0 := h.c0
  have c1 := h.c1
  have HL := Lib.hid h
  have hs := same_beq (m.takes c)
  clear h
  go_enter Try.func14, Try.ntmps14
  go_wp2_with fail
  go_region_held3 (fun w' => w'.cell? ⟨p, 0, none⟩ = some (.pointer (some ⟨g, 0, none⟩)) ∧ w'.cell? ⟨p, 1, none⟩ = some (.pointer (some ⟨rg, 0, none⟩))) (go_keep)
    (first
    | (go_at_call 17; refine (win_takes g rb m c _ (HL.out.win.drewN _) hc).mono ?_; rintro e w1 ⟨q1, rfl, rfl⟩)
    | (go_at_call 23; refine (ref_takes rg v m c _ (HL.out.ref.drewN _) hc).mono ?_; rintro e w2 ⟨rfl, rfl⟩))
  go_wp2_with fail
  go_ret
  exact ⟨_, rfl, rfl⟩
set_option maxRecDepth 100000 in
theorem plays_top (p g rb rg : Nat) (v : Value) (m : M) (c : Nat) (w : World) (h : Live w p g rb rg v m) :
    Calls Try.prog 14 #[.pointer (some ⟨p, 0, none⟩), .int .i64 3, .int .u64 (c : Int)] w (Quiet (.bool true) w) := by
  have c0 := h.c0
  have c1 := h.c1
  have HL := Lib.hid h
  have hs := same_beq m.any
  clear h
  go_enter Try.func14, Try.ntmps14
  go_wp2_with fail
  refine (win_top g rb m _ HL.out.win).mono ?_
  rintro e w' ⟨q1, rfl, rfl⟩
  go_wp2_with fail
  refine (ref_top rg v m _ (HL.out.ref.drewN q1)).mono ?_
  rintro e w' ⟨q2, rfl, rfl⟩
  go_wp2_with fail
  go_region_held3 (fun w' => w'.cell? ⟨p, 0, none⟩ = some (.pointer (some ⟨g, 0, none⟩)) ∧ w'.cell? ⟨p, 1, none⟩ = some (.pointer (some ⟨rg, 0, none⟩))) (go_keep)
    (first
    | (go_at_call 18; refine (win_floor g rb m _ (HL.out.win.drewN _)).mono ?_; rintro e w1 ⟨rfl, rfl⟩)
    | (go_at_call 25; refine (ref_floor rg v m _ (HL.out.ref.drewN _)).mono ?_; rintro e w2 ⟨rfl, rfl⟩))
  go_wp2_with fail
  go_ret
  exact ⟨_, rfl, rfl⟩
theorem plays_none (k : Int) (hk : k ≠ 1 ∧ k ≠ 2 ∧ k ≠ 3) (x : Value) (c : Int) (w : World) :
    Calls Try.prog 14 #[x, .int .i64 k, .int .u64 c] w (Quiet (.bool true) w) := by
  have e1 : (k == 1) = false := beq_eq_false_iff_ne.2 hk.1
  have e2 : (k == 2) = false := beq_eq_false_iff_ne.2 hk.2.1
  have e3 : (k == 3) = false := beq_eq_false_iff_ne.2 hk.2.2
  clear hk
  go_enter Try.func14, Try.ntmps14
  go_wp2_with fail
  go_ret
  exact ⟨0, rfl, rfl⟩
end Go.Proofs.Ythiiobhogkenhaa.Win
