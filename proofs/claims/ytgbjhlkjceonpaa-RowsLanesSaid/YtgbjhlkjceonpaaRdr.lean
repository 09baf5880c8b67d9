/- The walks of bits.Reader: NewReader, take, Bytes, Left, Get. -/
import Derived.Test.YtgbjhlkjceonpaaBits
import Derived.Test.YtgbjhlkjceonpaaStamp
import Derived.IntWalk
namespace Go.Proofs.Ytgbjhlkjceonpaa.Help
open Go.RowKit Go.Proofs.Ytgbjhlkjceonpaa.K
set_option linter.unusedVariables false

/-- a reader at block g over a copy of L at block rb -/
structure Rdr (w : World) (g rb : Nat) (L : List UInt8) (p : Nat) (err : Int) : Prop where
  b : w.heap[g]? = some (.cells #[.slice (some ⟨rb, 0, none⟩) L.length L.length, .int .i64 (p : Int), .int .i64 err] 139 (0, 0))
  r : Blk w rb L
  le : p ≤ L.length
  max : L.length ≤ 140737488355328
section
variable {w w' : World} {g rb p : Nat} {L : List UInt8} {err : Int}
theorem Rdr.c0 (h : Rdr w g rb L p err) : w.cell? ⟨g, 0, none⟩ = some (.slice (some ⟨rb, 0, none⟩) L.length L.length) := (blk_cell h.b 0).trans rfl
theorem Rdr.c1 (h : Rdr w g rb L p err) : w.cell? ⟨g, 1, none⟩ = some (.int .i64 (p : Int)) := (blk_cell h.b 1).trans rfl
theorem Rdr.c2 (h : Rdr w g rb L p err) : w.cell? ⟨g, 2, none⟩ = some (.int .i64 err) := (blk_cell h.b 2).trans rfl
theorem Rdr.f (h : Rdr w g rb L p err) (j : Nat) : w.frozen? ⟨g, j, none⟩ = false := blk_free h.b j
theorem Rdr.ne (h : Rdr w g rb L p err) : g ≠ rb := blk_ne h.b h.r (by decide)
theorem Rdr.only {T : Nat → Prop} (h : Rdr w g rb L p err) (k : Only w w' T) (h1 : ¬ T g) (h2 : ¬ T rb) : Rdr w' g rb L p err := ⟨k.blk h.b h1, h.r.only k h2, h.le, h.max⟩
theorem Rdr.below (h : Rdr w g rb L p err) (hb : Below w.heap.size w w') : Rdr w' g rb L p err := ⟨(hb.block g (blk_lt h.b)).trans h.b, (hb.block rb (blk_lt h.r)).trans h.r, h.le, h.max⟩
theorem Rdr.drewN (h : Rdr w g rb L p err) (n : Nat) : Rdr (w.drewN n) g rb L p err := ⟨h.b, h.r, h.le, h.max⟩
theorem Rdr.setErr (h : Rdr w g rb L p err) (e : Int) : Rdr (w.setCell ⟨g, 2, none⟩ (.int .i64 e)) g rb L p e :=
  ⟨by have := blk_set h.b 2 (.int .i64 e); simpa using this, blk_far h.r h.ne.symm _, h.le, h.max⟩
theorem Rdr.setAt (h : Rdr w g rb L p err) (q : Nat) (hq : q ≤ L.length) : Rdr (w.setCell ⟨g, 1, none⟩ (.int .i64 (q : Int))) g rb L q err :=
  ⟨by have := blk_set h.b 1 (.int .i64 (q : Int)); simpa using this, blk_far h.r h.ne.symm _, hq, h.max⟩
end
/-- what NewReader answers -/
def NewR (w : World) (L : List UInt8) (e : Ending) (w' : World) : Prop :=
  ∃ g rb, e = .returned (.pointer (some ⟨g, 0, none⟩)) ∧ Rdr w' g rb L 0 0 ∧ Below w.heap.size w w' ∧ w.heap.size ≤ g ∧ w.heap.size ≤ rb
set_option maxRecDepth 100000 in
theorem newReader (A : Option Addr) (c : Nat) (l : List UInt8) (w : World) (ha : Bs w A c l) :
    Calls Try.prog 78 #[.slice A l.length c] w (NewR w l) := by
  have hm := ha.max
  have hmk := fun W => make_u8 l.length hm W
  have h1 : Blk ((w.alloc (.cells (u8s (zs l.length)).toArray 5)).alloc (.cells #[.slice (some ⟨w.heap.size, 0, none⟩) l.length l.length, .int .i64 0, .int .i64 0] 139)) w.heap.size (List.replicate l.length 0) := blk_alloc (blk_made w l.length) _
  have hb2 : Below w.heap.size w ((w.alloc (.cells (u8s (zs l.length)).toArray 5)).alloc (.cells #[.slice (some ⟨w.heap.size, 0, none⟩) l.length l.length, .int .i64 0, .int .i64 0] 139)) := below_alloc (below_alloc (Below.refl _ _) _) _
  obtain ⟨w2, hcopy, hb3, ho3⟩ := copy_u8 (n := l.length) (dc := l.length) (o := 0) h1 (ha.below hb2) (by simp) 3
  have hg : ((w.alloc (.cells (u8s (zs l.length)).toArray 5)).alloc (.cells #[.slice (some ⟨w.heap.size, 0, none⟩) l.length l.length, .int .i64 0, .int .i64 0] 139)).heap[w.heap.size + 1]? = some (.cells #[.slice (some ⟨w.heap.size, 0, none⟩) l.length l.length, .int .i64 0, .int .i64 0] 139 (0, 0)) := by
    have := blk_new (w.alloc (.cells (u8s (zs l.length)).toArray 5)) (.cells #[.slice (some ⟨w.heap.size, 0, none⟩) l.length l.length, .int .i64 0, .int .i64 0] 139)
    simpa using this
  have HF : Hid (NewR w l (.returned (.pointer (some ⟨w.heap.size + 1, 0, none⟩))) w2) := by
    have hmin : Nat.min l.length l.length = l.length := Nat.min_self _
    rw [hmin, List.take_of_length_le (l := l) (by omega)] at hb3
    simp only [List.take_zero, List.nil_append, Nat.zero_add, List.drop_replicate, Nat.sub_self, List.replicate_zero, List.append_nil] at hb3
    exact ⟨w.heap.size + 1, w.heap.size, rfl, ⟨ho3.blk hg (by omega), hb3, by omega, hm⟩, below_only hb2 ho3 (fun i hi => by rw [hi]; exact Nat.le_refl _), by omega, by omega⟩
  clear ha h1 hb2 hb3 ho3 hg
  go_enter Try.func78, Try.ntmps78
  go_wp2_with fail
  go_ret
  exact HF.out

/-- what is left of a reader's bytes -/
def cutN (L : List UInt8) (p n : Nat) : List UInt8 := (L.drop p).take n
/-- what take does to a reader: bytes, ok, the place and the error behind -/
def takes (L : List UInt8) (p n : Nat) (err : Int) : List UInt8 × Bool × Nat × Int :=
  if err ≠ 0 then ([], false, p, err) else if L.length - p < n then ([], false, p, 10) else (cutN L p n, true, p + n, 0)
def Took (w : World) (g rb : Nat) (L : List UInt8) (t : List UInt8 × Bool × Nat × Int) (e : Ending) (w' : World) : Prop :=
  ∃ A c, e = .returned (.tuple #[.slice A t.1.length c, .bool t.2.1]) ∧ Bs w' A c t.1 ∧ Rdr w' g rb L t.2.2.1 t.2.2.2 ∧ Only w w' (fun k => k = g)
theorem cut_bs {w : World} {rb p n : Nat} {L : List UInt8} (h : Blk w rb L) (hm : L.length ≤ 140737488355328) (hn : p + n ≤ L.length) : Bs w (if p + n = p then some ⟨rb, 0, none⟩ else some ⟨rb, p, none⟩) n (cutN L p n) := by
  have hl : (cutN L p n).length = n := by unfold cutN; rw [List.length_take, List.length_drop]; omega
  refine ⟨by omega, by omega, fun i hi => ?_⟩
  rw [hl] at hi
  rw [if_neg (by omega)]
  refine ⟨_, rfl, blk_lt h, ?_⟩
  have e : (⟨rb, p, none⟩ : Addr).add i = ⟨rb, p + i, none⟩ := by unfold Addr.add; split <;> simp_all
  rw [e, h.cell (p + i) (by omega)]
  unfold cutN
  congr 3
  simp only [List.getD_eq_getElem?_getD, List.getElem?_take, hi, if_true, List.getElem?_drop]
theorem run_cut {rb p n : Nat} {L : List UInt8} (hn : p + n ≤ L.length) (W : World) :
    (Instr.slice 22 (.slice (some ⟨rb, 0, none⟩) L.length L.length) (some (.int .i64 (p : Int))) (some (.int .i64 ((p : Int) + n))) (some (.int .i64 ((p : Int) + n)))).run Try.prog W = .ok (.slice (if p + n = p then some ⟨rb, 0, none⟩ else some ⟨rb, p, none⟩) n n) W := by
  have hel : Try.prog.elem 22 = 5 := by kernel_rfl
  have hu : Try.prog.underlying 22 = some (.slice (Try.prog.elem 22)) := by rw [hel]; exact Try.underlying22
  have hs : Try.prog.cellsOf 5 = 1 := by kernel_rfl
  have h1 : (0 : Int) ≤ (p : Int) + n ∧ (p : Int) + n ≤ (L.length : Int) := by omega
  have h2 : (0 : Int) ≤ (p : Int) ∧ (p : Int) ≤ (((p : Int) + n).toNat : Int) := by omega
  have e1 : ((p : Int) + n).toNat = p + n := by omega
  rw [run_slice_any (P := Try.prog) (ht := hu)]
  have hb : (Instr.sliceBounds true L.length L.length (some (.int .i64 (p : Int))) (some (.int .i64 ((p : Int) + n))) (some (.int .i64 ((p : Int) + n)))).run Try.prog W = .ok (p, p + n, p + n) W := by
    have b1 : (Instr.sliceBound (.int .i64 ((p : Int) + n)) L.length .slice3Acap).run Try.prog W = .ok (p + n) W := by rw [run_sliceBound (h0 := h1.1) (h1 := h1.2), e1]
    have b2 : (Instr.sliceBound (.int .i64 ((p : Int) + n)) (p + n) .slice3B).run Try.prog W = .ok (p + n) W := by rw [run_sliceBound (h0 := h1.1) (h1 := by omega), e1]
    have b3 : (Instr.sliceBound (.int .i64 (p : Int)) (p + n) .slice3C).run Try.prog W = .ok p W := by rw [run_sliceBound (h0 := by omega) (h1 := by omega)]; simp
    simp [Instr.sliceBounds, b1, b2, b3]
  rw [hb, hel]
  have hsz : (sizeOf 5).run Try.prog W = .ok 1 W := by kernel_rfl
  simp only [Result.andThen, hsz, sliced]
  have en : p + n - p = n := by omega
  rw [en]
  by_cases h0 : n = 0
  · simp [h0]
  · rw [if_neg (by omega), if_neg (by omega)]
    have ea : (⟨rb, 0, none⟩ : Addr).add (p * 1) = ⟨rb, p, none⟩ := by rw [Nat.mul_one, addr_add_plain]
    rw [Option.map_some, ea]

theorem cutN_len {L : List UInt8} {p n : Nat} (h : p + n ≤ L.length) : (cutN L p n).length = n := by unfold cutN; rw [List.length_take, List.length_drop]; omega
theorem takes_cases (L : List UInt8) (p n : Nat) (err : Int) (hp : p ≤ L.length) : ((err == 0) = false ∧ (err != 0) = true ∧ takes L p n err = ([], false, p, err)) ∨ (err = 0 ∧ L.length - p < n ∧ takes L p n err = ([], false, p, 10)) ∨ (err = 0 ∧ p + n ≤ L.length ∧ takes L p n err = (cutN L p n, true, p + n, 0)) := by
  unfold takes
  by_cases h : err = 0
  · subst h
    by_cases h2 : L.length - p < n
    · exact .inr (.inl ⟨rfl, h2, by simp [h2]⟩)
    · exact .inr (.inr ⟨rfl, by omega, by simp [h2]⟩)
  · exact .inl ⟨by simp [h], by simp [h], by simp [h]⟩
set_option maxRecDepth 100000 in
theorem take (g rb p n : Nat) (L : List UInt8) (err : Int) (w : World) (h : Rdr w g rb L p err) (hn : n ≤ 140737488355328) :
    Calls Try.prog 79 #[.pointer (some ⟨g, 0, none⟩), .int .i64 (n : Int)] w (Took w g rb L (takes L p n err)) := by
  have c0 := h.c0
  have c1 := h.c1
  have c2 := h.c2
  have hle := h.le
  have hmx := h.max
  have HR := Lib.hid h
  clear h
  rcases takes_cases L p n err hle with ⟨e1, e2, e⟩ | ⟨rfl, e2, e⟩ | ⟨rfl, e2, e⟩
  · rw [e]
    clear e
    go_enter Try.func79, Try.ntmps79
    go_wp2_with fail
    go_ret2
    exact ⟨none, 0, rfl, Bs.nil _ _ _, HR.out, Only.refl _ _⟩
  · rw [e]
    have f2 := HR.out.f 2
    have e3 : (L.length : Int) - p < n := by omega
    clear e
    go_enter Try.func79, Try.ntmps79
    go_wp2_with fail
    go_quiet (fail)
    go_wp2_with fail
    go_ret2
    exact ⟨none, 0, rfl, Bs.nil _ _ _, (HR.out.drewN _).setErr 10, ((Only.refl w (fun k => k = g)).drewN _).setCell (p := ⟨g, 2, none⟩) (.inl rfl) _⟩
  · rw [e]
    have f1 := HR.out.f 1
    have e3 : ¬ (L.length : Int) - p < n := by omega
    have hcut := run_cut (rb := rb) e2
    have HBS : Hid (∀ w', Only w w' (fun k => k = g) → Bs w' (if p + n = p then some ⟨rb, 0, none⟩ else some ⟨rb, p, none⟩) n (cutN L p n)) := fun w' ho => cut_bs (HR.out.r.only ho HR.out.ne.symm) hmx e2
    have hwr : IntKind.i64.wrap ((p : Int) + n) = (p : Int) + n := IntWalk.i64_in _ (by omega)
    have HLN := Lib.hid (cutN_len e2)
    generalize (if p + n = p then (some ⟨rb, 0, none⟩ : Option Addr) else some ⟨rb, p, none⟩) = A at hcut HBS
    have HQ : Hid (∀ q, Rdr ((w.drewN q).setCell ⟨g, 1, none⟩ (.int .i64 ((p : Int) + n))) g rb L (p + n) 0) := fun q => by have := (HR.out.drewN q).setAt (p + n) e2; push_cast at this; exact this
    have HO : Hid (∀ q, Only w ((w.drewN q).setCell ⟨g, 1, none⟩ (.int .i64 ((p : Int) + n))) (fun k => k = g)) := fun q => ((Only.refl w (fun k => k = g)).drewN q).setCell (p := ⟨g, 1, none⟩) (.inl rfl) _
    clear e
    go_enter Try.func79, Try.ntmps79
    go_wp2_with fail
    go_quiet (fail)
    go_wp2_with fail
    go_quiet (fail)
    go_wp2_with fail
    go_ret2
    exact ⟨A, n, by show _ = Ending.returned (.tuple #[.slice A (cutN L p n).length n, .bool true]); rw [HLN.out]; rfl, HBS.out _ (HO.out _), HQ.out _, HO.out _⟩

/-! Bytes, Left, Get: by take -/
def Left (L : List UInt8) (p : Nat) (err : Int) : Nat := if err ≠ 0 then 0 else L.length - p
set_option maxRecDepth 100000 in
theorem left (g rb p : Nat) (L : List UInt8) (err : Int) (w : World) (h : Rdr w g rb L p err) :
    Calls Try.prog 46 #[.pointer (some ⟨g, 0, none⟩)] w (Quiet (.int .i64 (Left L p err : Int)) w) := by
  have c0 := h.c0
  have c1 := h.c1
  have c2 := h.c2
  have hle := h.le
  have hmx := h.max
  clear h
  by_cases he : err = 0
  · subst he
    have HL : Hid ((Left L p 0 : Int) = L.length - p) := by unfold Left Hid; simp; omega
    go_enter Try.func46, Try.ntmps46
    go_wp2_with fail
    go_quiet (fail)
    go_wp2_with fail
    go_ret
    exact ⟨_, by rw [HL.out]; rfl, rfl⟩
  · have HL : Hid (Left L p err = 0) := by unfold Left Hid; simp [he]
    have e1 : (err != 0) = true := by simp [he]
    clear he
    go_enter Try.func46, Try.ntmps46
    go_wp2_with fail
    go_ret
    exact ⟨0, by rw [HL.out]; rfl, rfl⟩
def BytesR (w : World) (g rb : Nat) (L : List UInt8) (t : List UInt8 × Bool × Nat × Int) (e : Ending) (w' : World) : Prop :=
  ∃ A c, e = .returned (.slice A t.1.length c) ∧ Bs w' A c t.1 ∧ Rdr w' g rb L t.2.2.1 t.2.2.2 ∧ Only w w' (fun k => k = g)
set_option maxRecDepth 100000 in
theorem rbytes (g rb p n : Nat) (x : Int) (L : List UInt8) (err : Int) (w : World) (h : Rdr w g rb L p err) (hx : x = n) (hn : n ≤ 140737488355328) :
    Calls Try.prog 45 #[.pointer (some ⟨g, 0, none⟩), .int .i64 x] w (BytesR w g rb L (takes L p n err)) := by
  subst hx
  have T := Lib.hid (take g rb p n L err w h hn)
  clear h
  go_enter Try.func45, Try.ntmps45
  go_wp2_with fail
  refine T.out.mono ?_
  rintro e w1 ⟨A, c, rfl, hb, hr, ho⟩
  have H := Lib.hid (And.intro hb (And.intro hr ho))
  clear hb hr ho
  go_wp2_with fail
  go_ret
  exact ⟨A, c, rfl, H.out.1, H.out.2.1, H.out.2.2⟩
end Go.Proofs.Ytgbjhlkjceonpaa.Help
