/- The walks of stamps: Valid, Put, Get of package stamp and of culvertref6. -/
import Derived.Test.YtgbjhlkjceonpaaNum
namespace Go.Proofs.Ytgbjhlkjceonpaa.Help
open Go.RowKit Go.Proofs.Ytgbjhlkjceonpaa.K
set_option linter.unusedVariables false

def stV (sec nano : Int) : Bool := decide (0 ≤ sec) && (decide (0 ≤ nano) && decide (nano ≤ 999999999))
theorem stV_cases (sec nano : Int) : (sec < 0 ∧ stV sec nano = false) ∨ (0 ≤ sec ∧ nano < 0 ∧ stV sec nano = false) ∨ (0 ≤ sec ∧ 0 ≤ nano ∧ ¬ nano ≤ 999999999 ∧ stV sec nano = false) ∨ (0 ≤ sec ∧ 0 ≤ nano ∧ nano ≤ 999999999 ∧ stV sec nano = true) := by
  unfold stV
  by_cases h1 : 0 ≤ sec
  · by_cases h2 : 0 ≤ nano
    · by_cases h3 : nano ≤ 999999999
      · exact .inr (.inr (.inr ⟨h1, h2, h3, by simp [h1, h2, h3]⟩))
      · exact .inr (.inr (.inl ⟨h1, h2, h3, by simp [h3]⟩))
    · exact .inr (.inl ⟨h1, by omega, by simp [h2]⟩)
  · exact .inl ⟨by omega, by simp [h1]⟩

theorem stampValid (sec nano : Int) (w : World) (h1 : sec ≤ 9223372036854775807) :
    Calls Try.prog 34 #[.agg #[.int .i64 sec, .int .i64 nano]] w (Pure w (.bool (stV sec nano))) := by
  rcases stV_cases sec nano with ⟨e1, e⟩ | ⟨e1, e2, e⟩ | ⟨e1, e2, e3, e⟩ | ⟨e1, e2, e3, e⟩
  all_goals
    rw [e]
    clear e
    go_enter Try.func34, Try.ntmps34
    go_wp2_with fail
    go_ret
    exact ⟨rfl, (Below.refl _ _).alloc (Nat.le_refl _) _⟩
theorem refValid (sec nano : Int) (w : World) :
    Calls Try.prog 77 #[.agg #[.int .i64 sec, .int .i64 nano]] w (Pure w (.bool (stV sec nano))) := by
  rcases stV_cases sec nano with ⟨e1, e⟩ | ⟨e1, e2, e⟩ | ⟨e1, e2, e3, e⟩ | ⟨e1, e2, e3, e⟩
  all_goals
    rw [e]
    clear e
    go_enter Try.func77, Try.ntmps77
    go_wp2_with fail
    go_ret
    exact ⟨rfl, (Below.refl _ _).alloc (Nat.le_refl _) _⟩

/-- old cells read as before behind a call that leaves old memory -/
theorem bcell {W w1 : World} (hb : Below W.heap.size W w1) : (∀ b o, b < W.heap.size → w1.cell? ⟨b, o, none⟩ = W.cell? ⟨b, o, none⟩) ∧ (∀ b o, b < W.heap.size → w1.frozen? ⟨b, o, none⟩ = W.frozen? ⟨b, o, none⟩) :=
  ⟨fun b o h => hb.cell (p := ⟨b, o, none⟩) h, fun b o h => hb.frozen (p := ⟨b, o, none⟩) h⟩
def stPut (sec nano : Nat) : List UInt8 := be 8 sec ++ be 4 nano

/-- stamp.Put's memory: the stamp in a block, twelve bytes in another -/
structure StS (w w1 wr : World) (sec nano : Nat) (l : List UInt8) : Prop where
  s : wr.heap[w.heap.size]? = some (.cells #[.int .i64 (sec : Int), .int .i64 (nano : Int)] 25 (0, 0))
  b : BlkT wr 134 w1.heap.size l
  below : Below w.heap.size w wr
  hz : w.heap.size ≤ w1.heap.size
theorem StS.c0 {w w1 wr : World} {sec nano : Nat} {l : List UInt8} (h : StS w w1 wr sec nano l) : wr.cell? ⟨w.heap.size, 0, none⟩ = some (.int .i64 (sec : Int)) := (blk_cell h.s 0).trans rfl
theorem StS.c1 {w w1 wr : World} {sec nano : Nat} {l : List UInt8} (h : StS w w1 wr sec nano l) : wr.cell? ⟨w.heap.size, 1, none⟩ = some (.int .i64 (nano : Int)) := (blk_cell h.s 1).trans rfl
theorem StS.set {w w1 wr : World} {sec nano : Nat} {l : List UInt8} (h : StS w w1 wr sec nano l) (j : Nat) (x : UInt8) : StS w w1 (wr.setCell ⟨w1.heap.size, j, none⟩ (.int .u8 (x.toNat : Int))) sec nano (l.set j x) := by
  have hne : w.heap.size ≠ w1.heap.size := blk_ne h.s h.b (by decide)
  exact ⟨blk_far h.s hne _, h.b.set j x, h.below.setCell (p := ⟨w1.heap.size, j, none⟩) h.hz _, h.hz⟩

set_option maxRecDepth 100000 in
theorem stampPut_yes (sec nano : Nat) (w : World) (h1 : sec ≤ 9223372036854775807) (h2 : nano ≤ 999999999) :
    Calls Try.prog 37 #[.agg #[.int .i64 (sec : Int), .int .i64 (nano : Int)]] w (Ret w (stPut sec nano)) := by
  have hv : stV sec nano = true := by unfold stV; simp; omega
  have HV := Lib.hid (fun w => stampValid sec nano w (by omega))
  rw [hv] at HV
  clear hv
  go_enter Try.func37, Try.ntmps37
  go_wp2_with fail
  refine (HV.out _).mono ?_
  rintro e w1 ⟨rfl, hb⟩
  have hz : w.heap.size + 1 ≤ w1.heap.size := by have := hb.size; simpa using this
  have HB0 : Hid (Below w.heap.size w w1) := below_step ((Below.refl w.heap.size w).alloc (Nat.le_refl _) (.cells #[.int .i64 (sec : Int), .int .i64 (nano : Int)] 25)) hb
  have HB1 := Lib.hid hb
  clear hb
  go_wp2_with fail
  go_loopg [10] 8 (fun gk i wr => ∃ j : Nat, j ≤ 8 ∧ gk = 8 - j ∧ i = .int .i64 (j : Int) ∧ StS w w1 wr sec nano (List.replicate (8 - j) 0 ++ be j sec ++ List.replicate 4 0))
  case atStart =>
    refine ⟨0, by omega, rfl, rfl, ?_⟩
    exact ⟨(blk_alloc (HB1.out.block w.heap.size (by simp) |>.trans (blk_new w _)) _), blk_new w1 _, below_alloc HB0.out _, by omega⟩
  case round =>
    obtain ⟨j, hj, rfl, rfl, hS⟩ := hrel
    have HS := Lib.hid hS
    have c0 := hS.c0
    have c1 := hS.c1
    clear hS
    by_cases hlt : j < 8
    · have hlt2 : (j : Int) < 8 := by omega
      have hln : (List.replicate (8 - j) 0 ++ be j sec ++ List.replicate 4 0).length = 12 := by simp [be_len]; omega
      have d0 := HS.out.b.cell (7 - j) (by rw [hln]; omega)
      have d1 := HS.out.b.free (7 - j)
      have hw := kind8 sec j
      have HST := Lib.hid (be_step2 (List.replicate 4 0) 8 j sec hlt)
      have HSET := Lib.hid (HS.out.set (7 - j) (UInt8.ofNat (sec / 2 ^ (8 * j))))
      clear hln
      generalize UInt8.ofNat (sec / 2 ^ (8 * j)) = y at hw HST HSET
      generalize (List.replicate (8 - j) 0 ++ be j sec ++ List.replicate 4 0).getD (7 - j) 0 = z at d0
      go_wp2_with fail
      go_roundg (8 - (j + 1))
      case measure => omega
      case rel =>
        refine ⟨j + 1, by omega, rfl, by go_num, ?_⟩
        rw [← HST.out]
        exact HSET.out
    · obtain rfl : j = 8 := by omega
      have h8 : StS w w1 wr sec nano (be 8 sec ++ List.replicate 4 0) := by simpa using HS.out
      have HS8 := Lib.hid h8
      clear h8
      clear HS hlt
      go_wp2_with fail
      go_loopg [23] 4 (fun gk i wr => ∃ j : Nat, j ≤ 4 ∧ gk = 4 - j ∧ i = .int .i64 (j : Int) ∧ StS w w1 wr sec nano (be 8 sec ++ List.replicate (4 - j) 0 ++ be j nano))
      case atStart => exact ⟨0, by omega, rfl, rfl, by simpa [be] using HS8.out⟩
      case round =>
        obtain ⟨j, hj, rfl, rfl, hS⟩ := hrel
        have HS := Lib.hid hS
        have c0 := hS.c0
        have c1 := hS.c1
        clear hS
        by_cases hlt : j < 4
        · have hlt2 : (j : Int) < 4 := by omega
          have hln : (be 8 sec ++ List.replicate (4 - j) 0 ++ be j nano).length = 12 := by simp [be_len]; omega
          have d0 := HS.out.b.cell (11 - j) (by rw [hln]; omega)
          have d1 := HS.out.b.free (11 - j)
          have hw := kind8 nano j
          have hst := be_step (be 8 sec) 4 j nano hlt
          rw [show (be 8 sec).length + 4 - 1 - j = 11 - j by simp [be_len]] at hst
          have HST := Lib.hid hst
          have HSET := Lib.hid (HS.out.set (11 - j) (UInt8.ofNat (nano / 2 ^ (8 * j))))
          clear hln hst
          generalize UInt8.ofNat (nano / 2 ^ (8 * j)) = y at hw HST HSET
          generalize (be 8 sec ++ List.replicate (4 - j) 0 ++ be j nano).getD (11 - j) 0 = z at d0
          go_wp2_with fail
          go_roundg (4 - (j + 1))
          case measure => omega
          case rel =>
            refine ⟨j + 1, by omega, rfl, by go_num, ?_⟩
            rw [← HST.out]
            exact HSET.out
        · obtain rfl : j = 4 := by omega
          have h12 : StS w w1 wr sec nano (stPut sec nano) := by simpa [stPut] using HS.out
          have HS12 := Lib.hid h12
          clear h12
          have hmk : ∀ W : World, (Instr.makeSlice 22 (.int .i64 12) (.int .i64 12)).run Try.prog W = .ok (.slice (some ⟨W.heap.size, 0, none⟩) 12 12) (W.alloc (.cells (u8s (zs 12)).toArray 5)) := fun W => make_u8 12 (by omega) W
          have hlp : (stPut sec nano).length = 12 := by simp [stPut, be_len]
          have hsrc := HS12.out.b.bs (by omega)
          rw [hlp] at hsrc
          have hL := blk_made wr 12
          obtain ⟨w3, hcopy, hb3, ho3⟩ := copy_u8 (n := 12) (dc := 12) (o := 0) hL (hsrc.below ((Below.refl _ _).alloc (Nat.le_refl _) _)) (by simp) 3
          rw [hlp] at hcopy hb3
          have HB3 : Hid (Own w3 w.heap.size (.slice (some ⟨wr.heap.size, 0, none⟩) 12 12) (stPut sec nano) ∧ Below w.heap.size w w3) := by
            have hm : Nat.min 12 12 = 12 := rfl
            rw [hm, List.take_of_length_le (l := stPut sec nano) (by omega)] at hb3
            simp only [List.take_zero, List.nil_append, Nat.zero_add, List.drop_replicate, Nat.sub_self, List.replicate_zero, List.append_nil] at hb3
            have hwz : w.heap.size ≤ wr.heap.size := HS12.out.below.size
            have h2 := hb3.own (base := w.heap.size) hwz (by omega)
            rw [hlp] at h2
            exact ⟨h2, below_only (below_alloc HS12.out.below _) ho3 (fun i hi => by rw [hi]; exact hwz)⟩
          clear HS hL hb3 ho3 hsrc hlp hlt
          go_wp2_with fail
          go_ret
          exact ⟨_, rfl, HB3.out.1, HB3.out.2⟩
end Go.Proofs.Ytgbjhlkjceonpaa.Help
