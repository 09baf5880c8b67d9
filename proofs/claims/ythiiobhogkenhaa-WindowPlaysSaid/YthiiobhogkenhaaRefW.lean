/- The walks of the document's window (culvertref18). -/
import Derived.Test.YthiiobhogkenhaaWinM
namespace Go.Proofs.Ythiiobhogkenhaa.Win
open Go.RowKit Go.Proofs.Ythiiobhogkenhaa.K
set_option linter.unusedVariables false

/-- the document's window at block g; v: the slice of what was taken -/
structure Ref (w : World) (g : Nat) (v : Value) (m : M) : Prop where
  b : w.heap[g]? = some (.cells #[.int .u64 (m.floor : Int), .int .i64 (m.width : Int), v] 58 (0, 0))
  own : w.ownsRow 0 22 1 v m.taken.length (m.taken.map fun (x : Nat) => Value.int .u64 (x : Int))
  each : ∀ x, x ∈ m.taken → x < B64
  w2 : m.width ≤ 1024
theorem Ref.c0 {w : World} {g : Nat} {v : Value} {m : M} (h : Ref w g v m) : w.cell? ⟨g, 0, none⟩ = some (.int .u64 (m.floor : Int)) := (blk_cell h.b 0).trans rfl
theorem Ref.c1 {w : World} {g : Nat} {v : Value} {m : M} (h : Ref w g v m) : w.cell? ⟨g, 1, none⟩ = some (.int .i64 (m.width : Int)) := (blk_cell h.b 1).trans rfl
theorem Ref.c2 {w : World} {g : Nat} {v : Value} {m : M} (h : Ref w g v m) : w.cell? ⟨g, 2, none⟩ = some v := (blk_cell h.b 2).trans rfl
theorem Ref.fr {w : World} {g : Nat} {v : Value} {m : M} (h : Ref w g v m) (j : Nat) : w.frozen? ⟨g, j, none⟩ = false := blk_free h.b j
theorem Ref.ne {w : World} {g : Nat} {v : Value} {m : M} (h : Ref w g v m) : v.ownBlock ≠ some g := fun hk => by
  obtain ⟨cs, hb⟩ := own_blk h.own hk
  exact blk_ne hb h.b (by decide) rfl
theorem Ref.only {w w' : World} {g : Nat} {v : Value} {m : M} {T : Nat → Prop} (h : Ref w g v m) (k : Only w w' T) (h1 : ¬ T g) (h2 : ∀ i, v.ownBlock = some i → ¬ T i) : Ref w' g v m := ⟨k.blk h.b h1, own_keep h.own k h2, h.each, h.w2⟩
theorem Ref.drewN {w : World} {g : Nat} {v : Value} {m : M} (h : Ref w g v m) (n : Nat) : Ref (w.drewN n) g v m := ⟨h.b, own_drewN h.own n, h.each, h.w2⟩
theorem Ref.form {w : World} {g : Nat} {v : Value} {m : M} (h : Ref w g v m) : ∃ A cap, v = .slice A m.taken.length cap ∧ ∀ k, k < m.taken.length → ∃ tb, A = some ⟨tb, 0, none⟩ ∧ w.cell? ⟨tb, k, none⟩ = some (.int .u64 (m.taken.getD k 0 : Nat)) := by
  obtain ⟨A, cap, hv, hc⟩ := own_form h.own
  refine ⟨A, cap, hv, fun k hk => ?_⟩
  obtain ⟨tb, hA, hcell⟩ := hc k hk
  refine ⟨tb, hA, hcell.trans ?_⟩
  simp [hk]

theorem all_take {l : List Nat} {p : Nat → Bool} {k : Nat} (h : k < l.length) : (l.take (k + 1)).all p = ((l.take k).all p && p (l.getD k 0)) := by
  rw [List.take_succ_eq_append_getElem h, List.all_append]
  simp [h]
theorem all_false {l : List Nat} {p : Nat → Bool} {k : Nat} (h : k < l.length) (hp : p (l.getD k 0) = false) : l.all p = false := by
  rw [List.all_eq_false]
  exact ⟨_, getD_mem l k h, by rw [hp]; simp⟩

theorem ref_takes (g : Nat) (v : Value) (m : M) (c : Nat) (w : World) (hW : Ref w g v m) (hc : c < 18446744073709551616) :
    Calls Try.prog 23 #[.pointer (some ⟨g, 0, none⟩), .int .u64 (c : Int)] w fun e w' => e = .returned (.bool (m.takes c)) ∧ w = w' := by
  obtain ⟨floor, width, taken⟩ := m
  obtain ⟨A, cap, rfl, hcells⟩ := hW.form
  have c0 : w.cell? ⟨g, 0, none⟩ = some (.int .u64 (floor : Int)) := hW.c0
  have c1 : w.cell? ⟨g, 1, none⟩ = some (.int .i64 (width : Int)) := hW.c1
  have c2 : w.cell? ⟨g, 2, none⟩ = some (.slice A taken.length cap) := hW.c2
  have hlen : taken.length ≤ 9223372036854775807 := own_len hW.own
  have hw2 : width ≤ 1024 := hW.w2
  obtain ⟨t, ht⟩ : ∃ t, M.takes ⟨floor, width, taken⟩ c = t := ⟨_, rfl⟩
  rw [ht]
  have HT : Hid ((decide (floor ≤ c) && taken.all fun t => !bars width c t) = t) := ht
  have HC : Hid (∀ k, k < taken.length → ∃ tb, A = some ⟨tb, 0, none⟩ ∧ w.cell? ⟨tb, k, none⟩ = some (.int .u64 (taken.getD k 0 : Nat))) := hcells
  have HE : Hid (∀ x, x ∈ taken → x < B64) := hW.each
  clear ht hW hcells
  go_enter Try.func23, Try.ntmps23
  go_wp2_with fail
  go_loop [5] (fun i => ∃ k : Nat, k ≤ taken.length ∧ i = .int .i64 (k : Int) ∧ Hid ((taken.take k).all (fun t => !bars width c t) = true)) (fun i => taken.length - (intOf i).toNat)
  case atStart => exact ⟨0, by omega, rfl, by simp [Hid]⟩
  case round =>
    obtain ⟨k, hk, rfl, HK⟩ := hrel
    by_cases hlt : k < taken.length
    · obtain ⟨tb, hA, hcell⟩ := HC.out k hlt
      subst hA
      have hx : taken.getD k 0 < 18446744073709551616 := HE.out _ (getD_mem _ _ hlt)
      have H1 : Hid (bars width c (taken.getD k 0) = true → taken.all (fun t => !bars width c t) = false) := fun h => all_false hlt (by rw [h]; rfl)
      have H2 : Hid (bars width c (taken.getD k 0) = false → (taken.take (k + 1)).all (fun t => !bars width c t) = true) := fun h => by rw [all_take hlt, HK.out, h]; rfl
      generalize taken.getD k 0 = x at *
      by_cases h1 : x = c
      · have h2 : bars width c x = true := by simp [bars, h1]
        have H3 := Lib.hid (H1.out h2)
        have h5 : ((x : Int) == c) = true := beq_iff_eq.2 (by omega)
        clear h2 h1
        go_wp2_with fail
        go_ret
        exact ⟨ret_bool (by rw [← HT.out, H3.out]; simp), rfl⟩
      have h5 : ((x : Int) == c) = false := beq_eq_false_iff_ne.2 (by omega)
      by_cases h2 : c < x
      · by_cases h3 : width ≤ x - c
        · have h4 : bars width c x = true := by simp [bars, h2, h3]
          have H3 := Lib.hid (H1.out h4)
          have h6 : (width : Int) ≤ x - c := by omega
          clear h4
          go_wp2_with fail
          go_ret
          exact ⟨ret_bool (by rw [← HT.out, H3.out]; simp), rfl⟩
        · have h4 : bars width c x = false := by simp [bars, h1, h3]
          have H3 := Lib.hid (H2.out h4)
          have h6 : ¬ (width : Int) ≤ x - c := by omega
          clear h4
          go_wp2_with fail
          go_round
          case rel => exact ⟨k + 1, by omega, by go_num, H3⟩
          case measure => simp [intOf]; omega
      · have h4 : bars width c x = false := by simp [bars, h1, h2]
        have H3 := Lib.hid (H2.out h4)
        clear h4
        go_wp2_with fail
        go_round
        case rel => exact ⟨k + 1, by omega, by go_num, H3⟩
        case measure => simp [intOf]; omega
    · have HK2 : Hid (taken.all (fun t => !bars width c t) = true) := by have := HK.out; rwa [List.take_of_length_le (by omega)] at this
      go_wp2_with fail
      go_ret
      exact ⟨ret_bool (by rw [← HT.out, HK2.out]; simp), rfl⟩

theorem topOf_take {l : List Nat} {k : Nat} (h : k < l.length) : topOf (l.take (k + 1)) = max (topOf (l.take k)) (l.getD k 0) := by
  rw [List.take_succ_eq_append_getElem h, topOf_snoc]
  simp [h]

theorem ref_top (g : Nat) (v : Value) (m : M) (w : World) (hW : Ref w g v m) :
    Calls Try.prog 24 #[.pointer (some ⟨g, 0, none⟩)] w (Quiet (.tuple #[.int .u64 (m.top : Int), .bool m.any]) w) := by
  obtain ⟨floor, width, taken⟩ := m
  obtain ⟨A, cap, rfl, hcells⟩ := hW.form
  have c2 : w.cell? ⟨g, 2, none⟩ = some (.slice A taken.length cap) := hW.c2
  have hlen : taken.length ≤ 9223372036854775807 := own_len hW.own
  obtain ⟨t, ht⟩ : ∃ t, M.top ⟨floor, width, taken⟩ = t := ⟨_, rfl⟩
  obtain ⟨b, hb⟩ : ∃ b, M.any ⟨floor, width, taken⟩ = b := ⟨_, rfl⟩
  rw [ht, hb]
  have HB : Hid (decide (0 < taken.length) = b) := by
    rw [← hb]; unfold Hid M.any; cases taken <;> simp
  have HT : Hid (topOf taken = t) := ht
  have HC : Hid (∀ k, k < taken.length → ∃ tb, A = some ⟨tb, 0, none⟩ ∧ w.cell? ⟨tb, k, none⟩ = some (.int .u64 (taken.getD k 0 : Nat))) := hcells
  have HE : Hid (∀ x, x ∈ taken → x < B64) := hW.each
  clear ht hb hW hcells
  go_enter Try.func24, Try.ntmps24
  go_wp2_with fail
  go_loop [4, 5] (fun q i => ∃ k : Nat, k ≤ taken.length ∧ i = .int .i64 (k : Int) ∧ ∃ y : Nat, q = .int .u64 (y : Int) ∧ Hid (topOf (taken.take k) = y)) (fun _ i => taken.length - (intOf i).toNat)
  case atStart => exact ⟨0, by omega, rfl, 0, rfl, by simp [Hid, topOf]⟩
  case round =>
    obtain ⟨k, hk, rfl, y, rfl, HK⟩ := hrel
    by_cases hlt : k < taken.length
    · obtain ⟨tb, hA, hcell⟩ := HC.out k hlt
      subst hA
      have H1 : Hid (topOf (taken.take (k + 1)) = max y (taken.getD k 0)) := by unfold Hid; rw [topOf_take hlt, HK.out]
      generalize taken.getD k 0 = x at *
      by_cases h2 : y < x
      · have H3 : Hid (topOf (taken.take (k + 1)) = x) := by unfold Hid; rw [H1.out]; omega
        go_wp2_with fail
        go_round
        case rel => exact ⟨k + 1, by omega, by go_num, x, rfl, H3⟩
        case measure => simp [intOf]; omega
      · have H3 : Hid (topOf (taken.take (k + 1)) = y) := by unfold Hid; rw [H1.out]; omega
        go_wp2_with fail
        go_round
        case rel => exact ⟨k + 1, by omega, by go_num, y, rfl, H3⟩
        case measure => simp [intOf]; omega
    · have HK2 : Hid (y = t) := by have := HK.out; rw [List.take_of_length_le (by omega), HT.out] at this; exact this.symm
      go_wp2_with fail
      go_quiet (fail)
      go_wp2_with fail
      go_ret2
      refine ⟨_, ?_, rfl⟩
      rw [← HK2.out, ← HB.out]
      simp

theorem ref_floor (g : Nat) (v : Value) (m : M) (w : World) (hW : Ref w g v m) :
    Calls Try.prog 25 #[.pointer (some ⟨g, 0, none⟩)] w fun e w' => e = .returned (.int .u64 (m.floor : Int)) ∧ w = w' := by
  have c0 := hW.c0
  clear hW
  go_enter Try.func25, Try.ntmps25
  go_wp2_with fail
  go_ret
  exact ⟨rfl, rfl⟩

theorem info_u64r : (Try.prog.info? 22).map (fun i => (i.zero, i.size, i.bytes)) = some (some (.int .u64 0), 1, 8) := by kernel_rfl
/-- what the document's Mark answers -/
def RefMark (w : World) (g : Nat) (v : Value) (b : Bool) (m : M) (e : Ending) (w' : World) : Prop :=
  e = .returned (.bool b) ∧ ∃ v', Ref w' g v' m ∧ Only w w' (fun k => k = g ∨ v.ownBlock = some k) ∧ (v'.ownBlock = v.ownBlock ∨ ∃ b, v'.ownBlock = some b ∧ w.heap.size ≤ b)

theorem ref_mark (g : Nat) (v : Value) (m : M) (c : Nat) (w : World) (hW : Ref w g v m) (hc : c < 18446744073709551616) (hn : m.taken.length ≤ 1048576) :
    Calls Try.prog 22 #[.pointer (some ⟨g, 0, none⟩), .int .u64 (c : Int)] w (RefMark w g v (m.takes c) (m.mark c)) := by
  by_cases ht : m.takes c = true
  · have hm : m.mark c = { m with taken := m.taken ++ [c] } := by simp [M.mark, ht]
    rw [hm, ht]
    have HT : Hid (Calls Try.prog 23 #[.pointer (some ⟨g, 0, none⟩), .int .u64 (c : Int)] w fun e w' => e = .returned (.bool true) ∧ w = w') := by have := ref_takes g v m c w hW hc; rwa [ht] at this
    have c2 := hW.c2
    have f2 := hW.fr 2
    have hg := blk_lt hW.b
    have HW := Lib.hid hW
    have HO : Hid (w.ownsRow 0 22 1 v (m.taken.map fun (x : Nat) => Value.int .u64 (x : Int)).length (m.taken.map fun (x : Nat) => Value.int .u64 (x : Int))) := by have := hW.own; rwa [← List.length_map (f := fun (x : Nat) => Value.int .u64 (x : Int))] at this
    have fin : ∀ (v1 : Value) (w1 : World), w1.ownsRow 0 22 1 v1 ((m.taken.map fun (x : Nat) => Value.int .u64 (x : Int)).length + 1) ((m.taken.map fun (x : Nat) => Value.int .u64 (x : Int)) ++ [.int .u64 (c : Int)]) → Only w w1 (fun k => v.ownBlock = some k) → (v1.ownBlock = v.ownBlock ∨ ∃ b, v1.ownBlock = some b ∧ w.heap.size ≤ b) →
        RefMark w g v true { m with taken := m.taken ++ [c] } (.returned (.bool true)) (w1.setCell ⟨g, 2, none⟩ v1) := by
      intro v1 w1 ho hO hat
      have hW := HW.out
      have hb1 := hO.blk hW.b hW.ne
      have hne1 : ∀ i, v1.ownBlock = some i → i ≠ g := by
        rintro i hi rfl
        obtain ⟨cs, hcs⟩ := own_blk ho hi
        exact blk_ne hcs hb1 (by decide) rfl
      refine ⟨rfl, v1, ⟨?_, ?_, ?_, hW.w2⟩, (hO.mono (fun k _ h => .inr h)).setCell (.inl (.inl rfl)) _, hat⟩
      · have := blk_set hb1 2 v1; simpa using this
      · have h2 := own_keep ho ((Only.refl w1 (fun k => k = g)).setCell (p := ⟨g, 2, none⟩) (.inl rfl) v1) hne1
        simpa using h2
      · intro x hx
        rcases List.mem_append.1 hx with h1 | h1
        · exact hW.each x h1
        · rw [List.mem_singleton.1 h1]; exact hc
    have HF := Lib.hid fin
    have hl : ((m.taken.map fun (x : Nat) => Value.int .u64 (x : Int)).length + 1) * 8 ≤ 140737488355328 := by rw [List.length_map]; omega
    clear hW ht hm fin
    generalize (m.taken.map fun (x : Nat) => Value.int .u64 (x : Int)) = xs at *
    go_enter Try.func22, Try.ntmps22
    go_wp2_with fail
    refine HT.out.mono ?_
    rintro e w' ⟨rfl, rfl⟩
    go_wp2_with (at_builtin; refine ap1 rfl (.tmp 14) (.tmp 16) 42 22 (.int .u64 0) 8 rfl Try.underlying42 info_u64r rfl (by decide) v xs (.int .u64 (c : Int)) rfl rfl rfl HO.out hl ?_; intro v1 w1 ho hO hat; obtain ⟨A1, cap1, rfl, hc1⟩ := own_form ho; clear hc1; have HO1 := Lib.hid ho; have HA1 := Lib.hid hat; clear ho hat; have d2 : w1.cell? ⟨g, 2, none⟩ = some v := (blk_cell (hO.blk HW.out.b HW.out.ne) 2).trans rfl; have d3 : w1.frozen? ⟨g, 2, none⟩ = false := blk_free (hO.blk HW.out.b HW.out.ne) 2)
    go_ret
    exact HF.out _ _ HO1.out hO HA1.out
  · have ht0 : m.takes c = false := by simpa using ht
    have hs : m.mark c = m := by simp [M.mark, ht0]
    rw [hs, ht0]
    have HT : Hid (Calls Try.prog 23 #[.pointer (some ⟨g, 0, none⟩), .int .u64 (c : Int)] w fun e w' => e = .returned (.bool false) ∧ w = w') := by have := ref_takes g v m c w hW hc; rwa [ht0] at this
    clear ht hs ht0
    go_enter Try.func22, Try.ntmps22
    go_wp2_with fail
    refine HT.out.mono ?_
    rintro e w' ⟨rfl, rfl⟩
    go_wp2_with fail
    go_ret
    exact ⟨rfl, v, hW, Only.refl _ _, .inl rfl⟩
end Go.Proofs.Ythiiobhogkenhaa.Win
