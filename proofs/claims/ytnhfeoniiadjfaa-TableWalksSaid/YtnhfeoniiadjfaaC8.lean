/- Contracts of the functions that the laws of this seat reach: part 8 of 8. -/
import Derived.Test.YtnhfeoniiadjfaaC7
import Derived.Laws.EntriesVeiled
import Derived.IntWalk
/- Bytes that may be written over: what All hands out. -/
namespace Go.Proofs.Ytnhfeoniiadjfaa.Lst
open Go.RowKit Go.Maps Go.Proofs.Ytnhfeoniiadjfaa.K Go.Proofs.Ytnhfeoniiadjfaa.Help Go.Proofs.Ytnhfeoniiadjfaa.Pfx Go.Proofs.Ytnhfeoniiadjfaa.Peer
set_option linter.unusedVariables false

/-- the first n cells of block g are bytes that may be written -/
def ByW (w : World) (g n : Nat) : Prop := ∃ cs lo hi, w.heap[g]? = some (.cells cs 5 (lo, hi)) ∧ ∀ j, j < n → (∃ x : UInt8, cs[j]? = some (.int .u8 (x.toNat : Int))) ∧ ¬ (lo ≤ j ∧ j < hi)
section
variable {w w' : World} {g n : Nat}
theorem ByW.lt (h : ByW w g n) : g < w.heap.size := by obtain ⟨cs, lo, hi, h, _⟩ := h; exact blk_lt h
theorem ByW.cell (h : ByW w g n) (j : Nat) (hj : j < n) : ∃ x : UInt8, w.cell? ⟨g, j, none⟩ = some (.int .u8 (x.toNat : Int)) := by
  obtain ⟨cs, lo, hi, h, h2⟩ := h
  rw [blk_cell h]
  exact (h2 j hj).1
theorem ByW.free (h : ByW w g n) (j : Nat) (hj : j < n) : w.frozen? ⟨g, j, none⟩ = false := by
  obtain ⟨cs, lo, hi, h, h2⟩ := h
  have h3 := (h2 j hj).2
  simp only [World.frozen?, h]
  rw [Bool.and_eq_false_iff]
  simp only [decide_eq_false_iff_not]
  omega
theorem ByW.set (h : ByW w g n) (j : Nat) (x : UInt8) : ByW (w.setCell ⟨g, j, none⟩ (.int .u8 (x.toNat : Int))) g n := by
  obtain ⟨cs, lo, hi, h, h2⟩ := h
  refine ⟨_, lo, hi, blk_set h j _, fun i hi => ⟨?_, (h2 i hi).2⟩⟩
  obtain ⟨y, hy⟩ := (h2 i hi).1
  rw [Array.getElem?_setIfInBounds]
  by_cases e : j = i
  · subst e
    have hlt : j < cs.size := (Array.getElem?_eq_some_iff.1 hy).1
    rw [if_pos rfl, if_pos hlt]
    exact ⟨x, rfl⟩
  · rw [if_neg e]
    exact ⟨y, hy⟩
theorem ByW.keep (h : ByW w g n) (hb : Below w.heap.size w w') : ByW w' g n := by
  have hlt := h.lt
  obtain ⟨cs, lo, hi, h, h2⟩ := h
  exact ⟨cs, lo, hi, (hb.block g hlt).trans h, h2⟩
theorem ByW.only {T : Nat → Prop} (h : ByW w g n) (k : Only w w' T) (hT : ¬ T g) : ByW w' g n := by
  have hlt := h.lt
  obtain ⟨cs, lo, hi, h, h2⟩ := h
  exact ⟨cs, lo, hi, (k.block g hlt hT).trans h, h2⟩
end
/-- a slice whose bytes may be written over, in a block from N on -/
def Wr (w : World) (N : Nat) (A : Option Addr) (n : Nat) : Prop := 0 < n → ∃ g, A = some ⟨g, 0, none⟩ ∧ N ≤ g ∧ ByW w g n
theorem Wr.keep {w w' : World} {N n : Nat} {A : Option Addr} (h : Wr w N A n) (hb : Below w.heap.size w w') : Wr w' N A n := fun hn => by
  obtain ⟨g, e, h1, h2⟩ := h hn
  exact ⟨g, e, h1, h2.keep hb⟩
theorem Wr.low {w : World} {N M n : Nat} {A : Option Addr} (h : Wr w N A n) (hM : M ≤ N) : Wr w M A n := fun hn => by
  obtain ⟨g, e, h1, h2⟩ := h hn
  exact ⟨g, e, Nat.le_trans hM h1, h2⟩
/-- []byte(s), and that it may be written over -/
theorem bytesW_of (w : World) (k : List UInt8) (hk : k.length ≤ 140737488355328) : ∃ cap w1, (convert 9 27 (.string ⟨k.toArray⟩)).run Try.prog w = .ok (.slice (some ⟨w.heap.size, 0, none⟩) k.length cap) w1
    ∧ Bs w1 (some ⟨w.heap.size, 0, none⟩) cap k ∧ Below w.heap.size w w1 ∧ Wr w1 w.heap.size (some ⟨w.heap.size, 0, none⟩) k.length := by
  have hrun := run_bytes_of_string (P := Try.prog) w 9 27 5 ⟨k.toArray⟩ u_str u_slice8 u_u8
  have hge := grownCap_ge w (ByteArray.size ⟨k.toArray⟩) 0 5
  have hsz : ByteArray.size ⟨k.toArray⟩ = k.length := by simp [ByteArray.size]
  generalize grownCap w (ByteArray.size ⟨k.toArray⟩) 0 5 = cap at *
  have hb : (w.drew.alloc (.cells (bytesRow ⟨k.toArray⟩ cap) 5 ((bytesRow ⟨k.toArray⟩ cap).size, (bytesRow ⟨k.toArray⟩ cap).size + 1))).heap[w.heap.size]? = some (.cells (bytesRow ⟨k.toArray⟩ cap) 5 ((bytesRow ⟨k.toArray⟩ cap).size, (bytesRow ⟨k.toArray⟩ cap).size + 1)) := by
    show (w.heap.push _)[w.heap.size]? = _
    simp
  have hB : Below w.heap.size w (w.drew.alloc (.cells (bytesRow ⟨k.toArray⟩ cap) 5 ((bytesRow ⟨k.toArray⟩ cap).size, (bytesRow ⟨k.toArray⟩ cap).size + 1))) := below_alloc (below_drewN (Below.refl _ _) 1) _
  rw [hsz] at hrun hge
  have hcell : ∀ i, i < k.length → (bytesRow ⟨k.toArray⟩ cap)[i]? = some (.int .u8 ((k.getD i 0).toNat : Int)) := by
    intro i hi
    unfold bytesRow
    rw [Array.getElem?_append_left (by simpa using hi)]
    simp [hi]
  refine ⟨cap, _, hrun, ⟨hge, hk, fun i hi => ⟨_, rfl, blk_lt hb, ?_⟩⟩, hB, fun _ => ⟨w.heap.size, rfl, Nat.le_refl _, _, _, _, hb, fun j hj => ⟨⟨_, hcell j hj⟩, ?_⟩⟩⟩
  · rw [addr_add_plain]
    exact (blk_cell hb i).trans (hcell i hi)
  · have := (Array.getElem?_eq_some_iff.1 (hcell j hj)).1
    omega
def RetCW (w : World) (l : List UInt8) (e : Ending) (w' : World) : Prop := ∃ B d, e = .returned (.slice B l.length d) ∧ Bs w' B d l ∧ Below w.heap.size w w' ∧ Nw w B ∧ Wr w' w.heap.size B l.length
theorem own_wr {w : World} {B : Nat} {A : Option Addr} {c n : Nat} {L : List UInt8} (h : K.Own w B (.slice A n c) L) : Wr w B A L.length := fun hn => by
  obtain ⟨g, c', e, h1, h2, h3, h4⟩ := own_byt h hn
  injection e with e1 e2 e3
  refine ⟨g, e1, h1, ?_⟩
  obtain ⟨cs, h5, h6⟩ := h4
  exact ⟨cs, 0, 0, h5, fun j hj => ⟨⟨_, h6 j hj⟩, by omega⟩⟩
set_option maxRecDepth 100000 in
theorem cloneW_any (A : Option Addr) (c : Nat) (l : List UInt8) (w : World) (h : Bs w A c l) : Calls Try.prog 56 #[.slice A l.length c] w (RetCW w l) := by
  have hnil := Lib.run_eql_slice_nil (P := Try.prog) w 27 5 A l.length c 0 0 u_slice8
  rcases A with _ | ad
  · have h0 : l = [] := by
      rcases l with _ | ⟨x, r⟩
      · rfl
      · obtain ⟨ad, h', _⟩ := h.at_ 0 (by simp)
        cases h'
    subst h0
    clear h
    simp only [List.length_nil] at hnil ⊢
    go_enter Try.func56, Try.ntmps56
    go_wp2_with fail
    go_ret
    exact ⟨none, 0, rfl, Bs.nil _ _ _, Below.refl _ _, Nw.none _, fun h => by simp at h⟩
  · have hb := below_alloc (Below.refl w.heap.size w) (.cells #[] 5)
    have O1 := Lib.hid (Blk.own (base := w.heap.size) (w := w.alloc (.cells #[] 5)) (g := w.heap.size) (l := []) (blk_new w _) (Nat.le_refl _) (by simp))
    have S1 := Lib.hid (h.below hb)
    have HB := Lib.hid hb
    have hmx := Lib.hid h.max
    have hle := Lib.hid h.le
    clear h hb
    generalize hn : l.length = n at *
    have HN := Lib.hid hn
    clear hn
    go_enter Try.func56, Try.ntmps56
    go_wp2_with (at_builtin; refine push_at (B := w.heap.size) rfl (.tmp 5) (.tmp 6) rfl (.slice (some ⟨w.heap.size, 0, none⟩) 0 0) [] l ad c rfl (by rw [HN.out]; rfl) O1.out S1.out HB.out.size (by have := hmx.out; have := HN.out; simp; omega) ?_; intro A2 c2 w2 o2 k2; have O2 := Lib.hid o2; have W2 := Lib.hid (below_only HB.out k2 (fun i hi => O1.out.base_le hi)); clear o2 k2)
    go_ret
    have hw := own_wr O2.out
    obtain ⟨A3, c3, e3, s3⟩ := O2.out.bs
    cases e3
    exact ⟨A2, c2, by simp, by simpa using s3, W2.out, Own.nw (w := w) O2.out (Nat.le_refl _), by simpa [HN.out] using hw⟩
end Go.Proofs.Ytnhfeoniiadjfaa.Lst
/- All's rows, each handed to a function that may write over what it gets. -/
namespace Go.Proofs.Ytnhfeoniiadjfaa.Lst
open Go.RowKit Go.Maps Go.Sort Go.Shelf Go.Proofs.Ytnhfeoniiadjfaa.K Go.Proofs.Ytnhfeoniiadjfaa.Help Go.Proofs.Ytnhfeoniiadjfaa.Pfx Go.Proofs.Ytnhfeoniiadjfaa.Peer
set_option linter.unusedVariables false
set_option maxRecDepth 100000 in
set_option maxHeartbeats 2000000 in
/-- All's rows, each handed to f, who may write over what it gets -/
theorem all1_wr (f : FuncId) (caps : Array Value) (eg : ∀ args w, (callFunc f args).run Try.prog w = .ok (.enter f args) w) (g b : Nat) (l : List RowD) (w : World) (T : Nat → Prop) (hT : ∀ i, T i → i < w.heap.size)
    (I : Nat → Nat → World → Prop) (St : World → Prop) (hit : TIter w g b l) (h0 : ∀ W1, Below w.heap.size w W1 → I W1.heap.size 0 W1) (hI : ∀ M k W W', I M k W → Below W.heap.size W W' → I M k W') (hM : ∀ M k W, I M k W → TIter W g b l) (hn : l.length ≤ 1000000)
    (hy : ∀ (M k N : Nat) (W : World) (A B : Option Addr) (a d : Nat), k < l.length → I M k W → (∃ W0, W0.heap.size = N ∧ I M k W0 ∧ Below W0.heap.size W0 W) → Wr W N A (l.getD k zR).1.length → Wr W N B (l.getD k zR).2.length → w.heap.size ≤ M → M ≤ N → N ≤ W.heap.size → Bs W A a (l.getD k zR).1 → Bs W B d (l.getD k zR).2 → (∀ ad, A = some ad → N ≤ ad.block) → (∀ ad, B = some ad → N ≤ ad.block) →
      Calls Try.prog f (#[.slice A (l.getD k zR).1.length a, .slice B (l.getD k zR).2.length d] ++ caps) W (fun e W' => Only W W' (fun i => T i ∨ M ≤ i) ∧ ((e = .returned (.bool true) ∧ I M (k + 1) W') ∨ (e = .returned (.bool false) ∧ St W')))) :
    Calls Try.prog 62 #[.func (.func f) #[] caps, .pointer (some ⟨g, 0, none⟩)] w (fun e w' => e = .returned (.tuple #[]) ∧ ((∃ M, I M l.length w') ∨ St w')) := by
  have H0 := Lib.hid h0
  have c0 := hit.cell
  have KY := Lib.hid (keysT_any b l.length l w hit.map hn)
  have HI := Lib.hid hI
  have HM := Lib.hid hM
  have HY := Lib.hid hy
  have HT := Lib.hid hT
  have HSR := Lib.hid hit.map.srt
  have H47 : Hid (∀ r, r ∈ l → r.1.length ≤ 140737488355328) := Lib.hid (by obtain ⟨D, _, h⟩ := hit.map; exact h.len)
  have HNN := Lib.hid hn
  clear h0 hI hM hy hT hn hit
  generalize hm : l.length = m at *
  have HMM := Lib.hid hm
  have HLM : Hid ((l.map Prod.fst).length = m) := Lib.hid (by rw [List.length_map]; exact hm)
  clear hm
  generalize hks : l.map Prod.fst = ks at *
  have HKS := Lib.hid hks
  clear hks
  rw [HLM.out] at KY
  go_enter Try.func62, Try.ntmps62
  go_wp2_with fail
  (with_reducible refine KY.out.mono ?_)
  rintro e w1 ⟨KA, kc, rfl, hkl, hb1, hnw⟩
  have HK : Hid (∀ j x, ks[j]? = some x → ∃ bk off, KA = some ⟨bk, off, none⟩ ∧ w.heap.size ≤ bk ∧ bk < w1.heap.size ∧ w1.cell? ⟨bk, off + j, none⟩ = some (.string ⟨x.toArray⟩)) := Lib.hid (fun j x hx => by
    obtain ⟨bk, off, raw, e, hlt, -, hc, hr⟩ := hkl.at_ j x hx
    refine ⟨bk, off, e, hnw _ e, hlt, ?_⟩
    have h0 := hc 0 (by decide)
    rw [show StrE.sz = 1 from rfl, Nat.mul_one, Nat.add_zero] at h0
    cases hr
    exact h0)
  have hkc := hkl.le
  have hkc2 := hkl.max
  rw [HLM.out] at hkc
  have I1 := Lib.hid (H0.out w1 hb1)
  have SZ1 := Lib.hid hb1.size
  clear hkl hb1 hnw KY c0
  go_wp2_with fail
  go_loopg [8] m (fun gk i wr => ∃ k : Nat, k ≤ m ∧ gk = m - k ∧ i = .int .i64 (k : Int) ∧ Hid (I w1.heap.size k wr) ∧ Hid (Stands w1 wr w.heap.size w1.heap.size))
  case atStart => exact ⟨0, by omega, rfl, rfl, I1, Nat.le_refl _, fun _ _ _ => rfl⟩
  case round =>
    clear I1
    obtain ⟨k, hk, rfl, rfl, HIK, HST⟩ := hrel
    by_cases hlt : k < m
    · have i1 : (k : Int) < (m : Int) := by omega
      have i0 : (0 : Int) ≤ (k : Int) := by omega
      have hkl : k < l.length := by rw [HMM.out]; exact hlt
      have hmem : l.getD k zR ∈ l := by
        have e : l.getD k zR = l[k] := by simp [hkl]
        rw [e]; exact List.getElem_mem hkl
      have hgk : ks[k]? = some (l.getD k zR).1 := by rw [← HKS.out, List.getElem?_map]; simp [hkl]
      obtain ⟨bk, off, rfl, b1, b2, y1⟩ := HK.out k _ hgk
      have hval : valOf l (l.getD k zR).1 = (l.getD k zR).2 := valOf_mem HSR.out.nodup hmem
      have h47 := H47.out _ hmem
      have Y := HY.out w1.heap.size k wr.heap.size
      obtain ⟨⟨x, v⟩, hx⟩ : ∃ y, l.getD k zR = y := ⟨_, rfl⟩
      rw [hx] at y1 hval h47 Y
      dsimp only at y1 hval h47 Y
      have y0 : wr.cell? ⟨bk, off + k, none⟩ = some (.string ⟨x.toArray⟩) := (cell_blk (ad := ⟨bk, _, none⟩) (HST.out.2 bk b1 b2)).trans y1
      have c1 := (HM.out _ k wr HIK.out).cell
      obtain ⟨cap, w2, hcv, s2, hb2, hw2⟩ := bytesW_of wr x h47
      have i2 := HI.out _ k wr w2 HIK.out hb2
      have c2 := (HM.out _ k w2 i2).cell
      obtain ⟨B, d, hlook, sv⟩ := tlookv_run (HM.out _ k w2 i2).map x h47
      rw [hval] at hlook sv
      have hfld := field_held B v.length d w2
      have CL := Lib.hid (cloneW_any B d v w2 sv)
      have I2 := Lib.hid i2
      have S2 := Lib.hid s2
      have WR2 := Lib.hid hw2
      have SZ2 := Lib.hid hb2.size
      have B2 := Lib.hid hb2
      have HYK := Lib.hid (fun W A B a d => Y W A B a d hlt)
      have HSW : Hid (w.heap.size ≤ wr.heap.size) := Lib.hid (Nat.le_trans SZ1.out HST.out.1)
      clear hkl hmem hgk b1 b2 y1 hval h47 hx i2 s2 hb2 hw2 sv Y
      go_wp2_with fail
      (with_reducible refine CL.out.mono ?_)
      rintro e w3 ⟨B3, d3, rfl, s3, hb3, n3, hw3⟩
      have Y3 := Lib.hid (HYK.out w3 _ B3 cap d3 (HI.out _ k w2 w3 I2.out hb3) ⟨wr, rfl, HIK.out, below_step B2.out hb3⟩ (WR2.out.keep hb3) (hw3.low SZ2.out) SZ1.out HST.out.1 (Nat.le_trans SZ2.out hb3.size) (S2.out.below hb3) s3 (fun ad e => by injection e with e; rw [← e]; exact Nat.le_refl _) (fun ad e => Nat.le_trans SZ2.out (n3 ad e)))
      have B3 := Lib.hid (below_step B2.out hb3)
      clear s3 hb3 n3 hw3
      go_wp2_with fail
      (with_reducible refine Y3.out.mono ?_)
      rintro e w4 ⟨k4, h4⟩
      rcases h4 with ⟨rfl, i4⟩ | ⟨rfl, st⟩
      · have I4 := Lib.hid i4
        have ST4 : Hid (Stands w1 w4 w.heap.size w1.heap.size) := Lib.hid ⟨Nat.le_trans HST.out.1 (Nat.le_trans B3.out.size k4.size), fun i hlo hhi => by
          have hwr : i < wr.heap.size := Nat.lt_of_lt_of_le hhi HST.out.1
          have h3 := k4.block i (Nat.lt_of_lt_of_le hwr B3.out.size) (fun h => h.elim (fun h => by have := HT.out i h; omega) (fun h => by omega))
          exact h3.trans ((B3.out.block i hwr).trans (HST.out.2 i hlo hhi))⟩
        clear k4 i4
        go_wp2_with fail
        go_roundg (m - (k + 1))
        case measure => omega
        case rel => exact ⟨k + 1, by omega, rfl, by go_num, I4, ST4⟩
      · have HST5 := Lib.hid st
        clear k4 st
        go_wp2_with fail
        exact bodyPost_ret (v := .tuple #[]) (by simp [results, Try.results62, go_sem]) rfl ⟨rfl, .inr HST5.out⟩
    · obtain rfl : k = m := by omega
      have i1 : ¬ (k : Int) < (k : Int) := by omega
      go_wp2_with fail
      go_end0
      exact ⟨rfl, .inl ⟨_, HIK.out⟩⟩
end Go.Proofs.Ytnhfeoniiadjfaa.Lst
/- The function that walked hands to All: it collects a row and writes over what it got. -/
namespace Go.Proofs.Ytnhfeoniiadjfaa.Lst
open Go.RowKit Go.Maps Go.Sort Go.Shelf Go.Proofs.Ytnhfeoniiadjfaa.K Go.Proofs.Ytnhfeoniiadjfaa.Help Go.Proofs.Ytnhfeoniiadjfaa.Pfx Go.Proofs.Ytnhfeoniiadjfaa.Peer
set_option linter.unusedVariables false

theorem OwnL.rowOnlyN {w w' : World} {t : TypeId} {B g : Nat} {N : Nat → Prop} {v : Value} {l : List RowD} (h : OwnL RowE t w N B v l) (k : Only w w' (fun i => i = g)) (hne : ∀ i, v.ownBlock = some i → ¬ i = g) (hno : NoU8 w g) : OwnL RowE t w' N B v l := by
  obtain ⟨raws, hl, ho, hm, hR⟩ := h
  refine ⟨raws, hl, row_keep ho k hne, hm, fun i x raw hx hw => ?_⟩
  obtain ⟨A1, a1, B1, b1, e1, s1, s2⟩ := hR i x raw hx hw
  exact ⟨A1, a1, B1, b1, e1, ⟨bs_only s1.1 k (fun i hi _ => by rw [hi]; exact hno), s1.2⟩, ⟨bs_only s2.1 k (fun i hi _ => by rw [hi]; exact hno), s2.2⟩⟩
/-- the boxes of rows: the list under way, whose rows lie in no block of N, and the number -/
structure RB2 (w : World) (N : Nat → Prop) (base pl pn : Nat) (n : Int) (v : Value) (u : List RowD) : Prop where
  l : w.heap[pl]? = some (.cells #[v] 49 (0, 0))
  n : w.heap[pn]? = some (.cells #[.int .i64 n] 3 (0, 0))
  o : OwnL RowE 54 w N base v u
section
variable {w w' : World} {N : Nat → Prop} {base pl pn : Nat} {n : Int} {v : Value} {u : List RowD}
theorem RB2.keep (h : RB2 w N base pl pn n v u) (hb : Below w.heap.size w w') : RB2 w' N base pl pn n v u := ⟨(hb.block _ (blk_lt h.l)).trans h.l, (hb.block _ (blk_lt h.n)).trans h.n, h.o.below hb⟩
theorem RB2.ne (h : RB2 w N base pl pn n v u) : pl ≠ pn := fun e => blk_ne (e ▸ h.l) h.n (by decide) rfl
theorem RB2.cl (h : RB2 w N base pl pn n v u) : w.cell? ⟨pl, 0, none⟩ = some v := (blk_cell h.l 0).trans rfl
theorem RB2.cn (h : RB2 w N base pl pn n v u) : w.cell? ⟨pn, 0, none⟩ = some (.int .i64 n) := (blk_cell h.n 0).trans rfl
theorem RB2.far (h : RB2 w N base pl pn n v u) : ∀ i, v.ownBlock = some i → ¬ i = pl ∧ ¬ i = pn := fun i hi => by
  obtain ⟨cs, hc⟩ := h.o.blk hi
  exact ⟨fun e => blk_ne (e ▸ hc) h.l (by decide) rfl, fun e => blk_ne (e ▸ hc) h.n (by decide) rfl⟩
theorem RB2.only (h : RB2 w N base pl pn n v u) (k : Only w w' N) (h1 : ¬ N pl) (h2 : ¬ N pn) (h3 : ∀ i, v.ownBlock = some i → ¬ N i) : RB2 w' N base pl pn n v u := ⟨k.blk h.l h1, k.blk h.n h2, h.o.only k h3 (fun i _ h => h)⟩
end
theorem ByW.setAny {w : World} {g n : Nat} (h : ByW w g n) (g2 j : Nat) (x : UInt8) : ByW (w.setCell ⟨g2, j, none⟩ (.int .u8 (x.toNat : Int))) g n := by
  by_cases e : g2 = g
  · subst e; exact h.set j x
  · exact h.only ((Only.refl w (fun i => i = g2)).setCell (p := ⟨g2, j, none⟩) (.inl rfl) _) (fun h => e h.symm)
theorem Wr.setAny {w : World} {N n : Nat} {A : Option Addr} (h : Wr w N A n) (g2 j : Nat) (x : UInt8) : Wr (w.setCell ⟨g2, j, none⟩ (.int .u8 (x.toNat : Int))) N A n := fun hn => by
  obtain ⟨g, e, h1, h2⟩ := h hn
  exact ⟨g, e, h1, h2.setAny g2 j x⟩
theorem Wr.only {w w' : World} {N n : Nat} {A : Option Addr} {T : Nat → Prop} (h : Wr w N A n) (k : Only w w' T) (hT : ∀ i, T i → i < N) : Wr w' N A n := fun hn => by
  obtain ⟨g, e, h1, h2⟩ := h hn
  exact ⟨g, e, h1, h2.only k (fun ht => by have := hT g ht; omega)⟩
def RetW1 (N0 : Nat) (W : World) (base pl pn : Nat) (n : Int) (v : Value) (u : List RowD) (e : Ending) (W' : World) : Prop := ∃ v', e = .returned (.bool (decide ((u.length : Int) < n))) ∧ RB1 W' base pl pn n v' u ∧ Only W W' (fun i => i = pl ∨ v.ownBlock = some i ∨ N0 ≤ i) ∧ (∀ i, v'.ownBlock = some i → v.ownBlock = some i ∨ W.heap.size ≤ i)
set_option maxRecDepth 100000 in
set_option maxHeartbeats 4000000 in
theorem walked1_any (base pl pn : Nat) (n : Int) (v : Value) (u : List RowD) (A B : Option Addr) (a d : Nat) (k x : List UInt8) (W0 W : World) (h : RB1 W0 base pl pn n v u) (hb0 : Below W0.heap.size W0 W) (hk : Bs W A a k) (hx : Bs W B d x) (wk : Wr W W0.heap.size A k.length) (wx : Wr W W0.heap.size B x.length) (hb : base ≤ W0.heap.size) (hu : u.length ≤ 1000000) :
    Calls Try.prog 64 #[.slice A k.length a, .slice B x.length d, .pointer (some ⟨pl, 0, none⟩), .pointer (some ⟨pn, 0, none⟩)] W (RetW1 W0.heap.size W base pl pn n v (u ++ [(k, x)])) := by
  obtain ⟨V0, vc, rfl⟩ := h.o.slice
  obtain ⟨NS, hNS⟩ : ∃ NS : Nat → Prop, NS = fun i => W0.heap.size ≤ i ∧ i < W.heap.size := ⟨_, rfl⟩
  have h2 : RB2 W NS base pl pn n (.slice V0 u.length vc) u := (⟨h.l, h.n, h.o.reno (fun i hi => .inr (by rw [hNS] at hi; exact hi.1))⟩ : RB2 W0 NS base pl pn n (.slice V0 u.length vc) u).keep hb0
  have HNS : Hid (∀ i, NS i → W0.heap.size ≤ i ∧ i < W.heap.size) := Lib.hid (fun i hi => by rw [hNS] at hi; exact hi)
  have HSN : Hid (∀ i, W0.heap.size ≤ i → i < W.heap.size → NS i) := Lib.hid (fun i h1 h2 => by rw [hNS]; exact ⟨h1, h2⟩)
  have OLD : Hid (pl < W0.heap.size ∧ pn < W0.heap.size ∧ ∀ i, (Value.slice V0 u.length vc).ownBlock = some i → i < W0.heap.size) := Lib.hid ⟨blk_lt h.l, blk_lt h.n, fun i hi => h.o.lt hi⟩
  clear hNS
  have D0 : Hid (Below W.heap.size W W.drew) := Lib.hid (below_drewN (Below.refl _ _) 1)
  have H0 := Lib.hid (h2.keep D0.out)
  have c0 := h2.cl
  have KS := Lib.hid (hk.below D0.out)
  have XS := Lib.hid (hx.below D0.out)
  have WK := Lib.hid (wk.keep D0.out)
  have WX := Lib.hid (wx.keep D0.out)
  have GK : Hid (∀ g, 0 < k.length → A = some ⟨g, 0, none⟩ → g < W.heap.size) := Lib.hid (fun g h1 e => by
    obtain ⟨g', e', _, h3⟩ := wk h1
    rw [e] at e'
    cases e'
    exact h3.lt)
  have GX : Hid (∀ g, 0 < x.length → B = some ⟨g, 0, none⟩ → g < W.heap.size) := Lib.hid (fun g h1 e => by
    obtain ⟨g', e', _, h3⟩ := wx h1
    rw [e] at e'
    cases e'
    exact h3.lt)
  have HB := Lib.hid (Nat.le_trans hb hb0.size)
  have HU := Lib.hid hu
  have FAR := Lib.hid h2.far
  have LTL := Lib.hid (blk_lt h2.l)
  clear h h2 hk hx hb hu hb0 wk wx
  have SB1 := Lib.hid (Help.bytes A a k W.drew KS.out)
  have SB2 := Lib.hid (fun w h => Help.bytes B d x w h)
  have k1 := KS.out.le
  have k2 := KS.out.max
  have x1 := XS.out.le
  have x2 := XS.out.max
  generalize hkl : k.length = kl at *
  have HKL := Lib.hid hkl
  generalize hxl : x.length = xl at *
  have HXL := Lib.hid hxl
  clear hkl hxl
  unfold RetW1
  rw [show ((u ++ [(k, x)]).length : Int) = (u.length : Int) + 1 by simp]
  generalize hul : u.length = ul at *
  have HUL := Lib.hid hul
  clear hul
  go_enter Try.func64, Try.ntmps64
  go_wp2_with fail
  go_region_law
    (first
    | ((refine step_pushE (E := RowE) 54 49 _ 48 (by rfl) _ _ (by rfl) Try.underlying49 info_row rfl (by decide) (by decide) (by decide) (.slice V0 ul vc) u (k, x) [Value.slice A2 kl a2, .slice B3 xl b3] w3.heap.size 1 (by rfl) (by rfl) O4.out X4.out E4.out Z4.out (by have := HUL.out; have := HU.out; omega) ?_ (fun i h => Nat.lt_of_lt_of_le (HNS.out i h).2 W4.out.size)
        intro A5 c5 w5 o5 k5 n5
        rw [HUL.out] at o5 n5 ⊢
        have O5 := Lib.hid o5
        have K5 := Lib.hid k5
        have N6 := Lib.hid n5
        have L5 := Lib.hid (k5.blk H4.out.l (fun e => (FAR.out _ e).1 rfl))
        have N5 := Lib.hid (k5.blk H4.out.n (fun e => (FAR.out _ e).2 rfl))
        have g0 : w5.cell? ⟨pl, 0, none⟩ = some (.slice V0 ul vc) := (blk_cell L5.out 0).trans rfl
        have z0 := blk_free L5.out 0
        clear o5 k5 n5))
    | (go_simp; go_at_call 36; refine (SB2.out w2 XS2.out).mono ?_; rintro e w3 ⟨v3, rfl, o3, hb3⟩; obtain ⟨B3, b3, rfl, t3⟩ := o3.bs; have m3 := Own.nw (w := w2) o3 (Nat.le_refl _); rw [HXL.out]; have hb4 := below_alloc (Below.refl w3.heap.size w3) (.cells #[Value.slice A2 kl a2, .slice B3 xl b3] 54); have H3 := Lib.hid (H2.out.keep hb3); have f0 := H3.out.cl; have H4 := Lib.hid (H3.out.keep hb4); have j0 := H4.out.cl; have O4 := Lib.hid H4.out.o; have X4 := Lib.hid (blk_new w3 (.cells #[Value.slice A2 kl a2, .slice B3 xl b3] 54)); have hfr := fresh_row (W := W) (k := k) (v := x) (N := fun i => NS i ∨ (Value.slice V0 ul vc).ownBlock = some i) ((K2.out.below hb3).below hb4) (t3.below hb4) M2.out (m3.back B2.out.size) (fun i hi => hi.elim (fun h => (HNS.out i h).2) (fun h => Nat.lt_of_lt_of_le (H0.out.o.lt h) (Nat.le_refl _))); rw [HKL.out, HXL.out] at hfr; have E4 := Lib.hid hfr; have W4 := Lib.hid (below_step (below_step B2.out hb3) hb4); have W4d := Lib.hid (below_step (below_step B2d.out hb3) hb4); have Z4 := Lib.hid (Nat.le_trans HB.out W4.out.size); clear o3 t3 m3 hb3 hb4 hfr)
    | (go_simp; go_at_call 36; refine SB1.out.mono ?_; rintro e w2 ⟨v2, rfl, o2, hb2⟩; obtain ⟨A2, a2, rfl, t2⟩ := o2.bs; have m2 := Own.nw (w := W.drew) o2 (Nat.le_refl _); rw [HKL.out]; have H2 := Lib.hid (H0.out.keep hb2); have e0 := H2.out.cl; have B2 := Lib.hid (below_step D0.out hb2); have B2d := Lib.hid hb2; have K2 := Lib.hid t2; have M2 : Hid (Nw W A2) := Lib.hid (m2.back D0.out.size); have XS2 := Lib.hid (XS.out.below hb2); clear o2 t2 m2 hb2))
  all_goals
    have RB5 : Hid (RB2 (w5.setCell ⟨pl, 0, none⟩ (.slice A5 (ul + 1) c5)) NS base pl pn n (.slice A5 (ul + 1) c5) (u ++ [(k, x)])) := by
      have hb0 := blk_set L5.out 0 (Value.slice A5 (ul + 1) c5)
      have kk : Only w5 (w5.setCell ⟨pl, 0, none⟩ (.slice A5 (ul + 1) c5)) (fun i => i = pl) := (Only.refl w5 (fun i => i = pl)).setCell (p := ⟨pl, 0, none⟩) (.inl rfl) _
      have hno : NoU8 w5 pl := by
        intro j y e
        rw [blk_cell L5.out j] at e
        match j with
        | 0 => cases e
        | j + 1 => simp at e
      refine ⟨hb0, blk_far N5.out (fun e => H0.out.ne e.symm) _, O5.out.rowOnlyN kk (fun i hi e => ?_) hno⟩
      obtain ⟨cs, hc⟩ := O5.out.blk hi
      exact blk_ne (e ▸ hc) L5.out (by decide) rfl
    have TT : Hid (∀ i, (i = pl ∨ (Value.slice V0 ul vc).ownBlock = some i) → i < W0.heap.size) := Lib.hid (fun i hi => hi.elim (fun e => by rw [e]; exact OLD.out.1) (fun e => OLD.out.2.2 i e))
    have KD : Hid (Only W.drew (w5.setCell ⟨pl, 0, none⟩ (.slice A5 (ul + 1) c5)) (fun i => i = pl ∨ (Value.slice V0 ul vc).ownBlock = some i)) := Lib.hid (((Only.of_below W4d.out (fun i => i = pl ∨ (Value.slice V0 ul vc).ownBlock = some i)).then_ K5.out (fun i h => .inl (.inr h))).setCell (p := ⟨pl, 0, none⟩) (.inl (.inl rfl)) _)
    have KK : Hid (Only W (w5.setCell ⟨pl, 0, none⟩ (.slice A5 (ul + 1) c5)) (fun i => i = pl ∨ (Value.slice V0 ul vc).ownBlock = some i)) := Lib.hid ((Only.of_below D0.out (fun i => i = pl ∨ (Value.slice V0 ul vc).ownBlock = some i)).then_ KD.out (fun i h => .inl h))
    have WK6 := Lib.hid (WK.out.only KD.out TT.out)
    have WX6 := Lib.hid (WX.out.only KD.out TT.out)
    have N7 : Hid (∀ i, (Value.slice A5 (ul + 1) c5).ownBlock = some i → (Value.slice V0 ul vc).ownBlock = some i ∨ W.heap.size ≤ i) := Lib.hid (fun i hi => (N6.out i hi).imp id (fun h => Nat.le_trans W4.out.size h))
    have NN : Hid (¬ NS pl ∧ ¬ NS pn ∧ ∀ i, (Value.slice A5 (ul + 1) c5).ownBlock = some i → ¬ NS i) := Lib.hid ⟨fun h => by have := (HNS.out _ h).1; have := OLD.out.1; omega, fun h => by have := (HNS.out _ h).1; have := OLD.out.2.1; omega, fun i hi h => by
      have h1 := HNS.out i h
      rcases N7.out i hi with h2 | h2
      · have := OLD.out.2.2 i h2; omega
      · omega⟩
    have SZ6 := Lib.hid KK.out.size
    clear L5 N5 z0 g0 KD TT
    generalize w5.setCell ⟨pl, 0, none⟩ (.slice A5 (ul + 1) c5) = w6 at *
    go_wp2_with fail
    go_loopg [7] kl (fun gk i wr => ∃ q : Nat, q ≤ kl ∧ gk = kl - q ∧ i = .int .i64 (q : Int) ∧ Hid (Only w6 wr NS) ∧ Hid (Wr wr W0.heap.size A kl) ∧ Hid (Wr wr W0.heap.size B xl))
    case atStart => exact ⟨0, by omega, rfl, rfl, Only.refl _ _, WK6, WX6⟩
    case round =>
      clear WK6 WX6
      obtain ⟨q, hq, rfl, rfl, HO, HWK, HWX⟩ := hrel
      by_cases hlt : q < kl
      · have i1 : (q : Int) < (kl : Int) := by omega
        have i0 : (0 : Int) ≤ (q : Int) := by omega
        obtain ⟨g, rfl, hg1, hg2⟩ := HWK.out (by omega)
        obtain ⟨y, y0⟩ := hg2.cell q hlt
        have z0 := hg2.free q hlt
        have NB := Lib.hid (HWK.out.setAny g q 35)
        have NX := Lib.hid (HWX.out.setAny g q 35)
        have NO := Lib.hid (HO.out.then_ ((Only.refl wr (fun i => i = g)).setCell (p := ⟨g, q, none⟩) (.inl rfl) (.int .u8 35)) (fun i hi => .inl (by rw [hi]; exact HSN.out g hg1 (GK.out g (by omega) rfl))))
        clear hg1 hg2
        go_wp2_with fail
        go_roundg (kl - (q + 1))
        case measure => omega
        case rel => exact ⟨q + 1, by omega, rfl, by go_num, NO, NB, NX⟩
      · obtain rfl : q = kl := by omega
        have i1 : ¬ (q : Int) < (q : Int) := by omega
        have HO1 := HO
        have HWX1 := HWX
        clear HO HWX HWK
        go_wp2_with fail
        go_loopg [8] xl (fun gk i wr => ∃ p : Nat, p ≤ xl ∧ gk = xl - p ∧ i = .int .i64 (p : Int) ∧ Hid (Only w6 wr NS) ∧ Hid (Wr wr W0.heap.size B xl))
        case atStart => exact ⟨0, by omega, rfl, rfl, HO1, HWX1⟩
        case round =>
          clear HO1 HWX1
          obtain ⟨p, hp, rfl, rfl, HO, HWX⟩ := hrel
          by_cases hlt2 : p < xl
          · have j1 : (p : Int) < (xl : Int) := by omega
            have j0 : (0 : Int) ≤ (p : Int) := by omega
            obtain ⟨g, rfl, hg1, hg2⟩ := HWX.out (by omega)
            obtain ⟨y, y0⟩ := hg2.cell p hlt2
            have z0 := hg2.free p hlt2
            have NX := Lib.hid (HWX.out.setAny g p 35)
            have NO := Lib.hid (HO.out.then_ ((Only.refl wr (fun i => i = g)).setCell (p := ⟨g, p, none⟩) (.inl rfl) (.int .u8 35)) (fun i hi => .inl (by rw [hi]; exact HSN.out g hg1 (GX.out g (by omega) rfl))))
            clear hg1 hg2
            go_wp2_with fail
            go_roundg (xl - (p + 1))
            case measure => omega
            case rel => exact ⟨p + 1, by omega, rfl, by go_num, NO, NX⟩
          · obtain rfl : p = xl := by omega
            have j1 : ¬ (p : Int) < (p : Int) := by omega
            have RB6 := Lib.hid (RB5.out.only HO.out NN.out.1 NN.out.2.1 NN.out.2.2)
            have q0 := RB6.out.cl
            have q1 := RB6.out.cn
            have KF : Hid (Only W wr (fun i => i = pl ∨ (Value.slice V0 ul vc).ownBlock = some i ∨ W0.heap.size ≤ i)) := Lib.hid ((KK.out.mono (fun i _ hi => hi.imp id .inl)).then_ HO.out (fun i hi => .inl (.inr (.inr (HNS.out i hi).1))))
            go_wp2_with fail
            go_ret
            refine ⟨?_, .slice A5 (ul + 1) c5, ⟨RB6.out.l, RB6.out.n, RB6.out.o.reno (fun i hi => hi.elim)⟩, KF.out, N7.out⟩
            first | rfl | (simp; rfl) | simp
end Go.Proofs.Ytnhfeoniiadjfaa.Lst
/- walked of the law: the first rows that an iterator gives. -/
namespace Go.Proofs.Ytnhfeoniiadjfaa.Lst
open Go.RowKit Go.Proofs.Ytnhfeoniiadjfaa.K Go.Proofs.Ytnhfeoniiadjfaa.Help Go.Proofs.Ytnhfeoniiadjfaa.Pfx Go.Proofs.Ytnhfeoniiadjfaa.Peer
set_option linter.unusedVariables false
theorem walked_yield (g b1 h : Nat) (l : List RowD) (n : Int) (w w3 : World) (hrb : RB1 w3 h (h + 1) h n (.slice none 0 0) []) (hit : TIter w3 g b1 l) (hn : 1 ≤ n) (hl : l.length ≤ 1000000) :
    Calls Try.prog 62 #[.func (.func 64) #[] #[.pointer (some ⟨h + 1, 0, none⟩), .pointer (some ⟨h, 0, none⟩)], .pointer (some ⟨g, 0, none⟩)] w3
      (fun e w' => e = .returned (.tuple #[]) ∧ ∃ v, RB1 w' h (h + 1) h n v (l.take n.toNat) ∧ Only w3 w' (fun i => i = h + 1)) := by
  have hpl := blk_lt hrb.l
  refine (all1_wr 64 #[.pointer (some ⟨h + 1, 0, none⟩), .pointer (some ⟨h, 0, none⟩)] (enters_of Try.func64 (by kernel_rfl) rfl) g b1 l w3 (fun i => i = h + 1) (fun i hi => by rw [hi]; exact hpl)
    (fun M k W => ∃ v, RB1 W h (h + 1) h n v (l.take k) ∧ Only w3 W (fun i => i = h + 1) ∧ (k = 0 ∨ (k : Int) < n) ∧ (∀ i, v.ownBlock = some i → M ≤ i))
    (fun W => ∃ v, RB1 W h (h + 1) h n v (l.take n.toNat) ∧ Only w3 W (fun i => i = h + 1)) hit ?_ ?_ ?_ hl ?_).mono ?_
  · intro W1 hb
    exact ⟨_, hrb.keep hb, Only.of_below hb _, .inl rfl, fun i hi => by simp [Value.ownBlock] at hi⟩
  · rintro M k W W' ⟨v, h1, h2, h3, h4⟩ hb
    exact ⟨v, h1.keep hb, h2.then_ (Only.of_below hb (fun i => i = h + 1)) (fun i hi => .inl hi), h3, h4⟩
  · rintro M k W ⟨v, h1, h2, h3, h4⟩
    exact hit.only h2 hrb.l (by decide) (fun b e => by cases e)
  · rintro M k N W A B a d hk - ⟨W0, rfl, ⟨v, h1, h2, h3, h4⟩, hb0⟩ hwA hwB hM hMN hNW hA hB hnA hnB
    have hbase : h ≤ W0.heap.size := by have := h2.size; omega
    have hlen : (l.take k).length = k := by rw [List.length_take]; omega
    refine (walked1_any h (h + 1) h n v (l.take k) A B a d (l.getD k zR).1 (l.getD k zR).2 W0 W h1 hb0 hA hB hwA hwB hbase (by rw [hlen]; omega)).mono ?_
    rintro e W' ⟨v', rfl, r1, k1, n1⟩
    rw [show l.take k ++ [((l.getD k zR).1, (l.getD k zR).2)] = l.take (k + 1) from take_snoc_z l k hk] at r1 ⊢
    have hlen2 : ((l.take (k + 1)).length : Int) = (k : Int) + 1 := by rw [List.length_take]; omega
    have hO : Only W W' (fun i => i = h + 1 ∨ M ≤ i) := k1.mono (fun i _ hi => hi.imp id (fun e => e.elim (fun e => h4 i e) (fun e => Nat.le_trans hMN e)))
    have h5 : Only w3 W' (fun i => i = h + 1) := (h2.then_ (Only.of_below hb0 (fun i => i = h + 1)) (fun i hi => .inl hi)).then_ hO (fun i hi => hi.imp id (fun e => Nat.le_trans hM e))
    refine ⟨hO, ?_⟩
    rw [hlen2]
    by_cases hc : (k : Int) + 1 < n
    · exact .inl ⟨by rw [decide_eq_true hc], v', r1, h5, .inr (by push_cast; omega), fun i hi => (n1 i hi).elim (fun e => h4 i e) (fun e => by omega)⟩
    · refine .inr ⟨by rw [decide_eq_false hc], v', ?_, h5⟩
      have : n.toNat = k + 1 := by omega
      rw [this]
      exact r1
  · rintro e w' ⟨rfl, h1 | ⟨v, h1, h2⟩⟩
    · obtain ⟨M, v, h1, h2, h3, h4⟩ := h1
      refine ⟨rfl, v, ?_, h2⟩
      have e1 : l.take l.length = l.take n.toNat := by
        rcases h3 with h3 | h3
        · have : l = [] := List.length_eq_zero_iff.1 h3
          rw [this]; simp
        · rw [List.take_of_length_le (Nat.le_refl _), List.take_of_length_le (by omega)]
      rw [← e1]
      exact h1
    · exact ⟨rfl, v, h1, h2⟩
set_option maxRecDepth 100000 in
set_option maxHeartbeats 2000000 in
theorem walked_any (g b : Nat) (l : List RowD) (n : Int) (w : World) (h : TIter w g b l) (hl : l.length ≤ 100000) (hn : 1 ≤ n) (hn2 : n ≤ 1000000) :
    Calls Try.prog 33 #[allFn g, .int .i64 n] w (RetL RowE w (l.take n.toNat)) := by
  have hb2 := below_alloc (below_alloc (Below.refl w.heap.size w) (.cells #[.int .i64 n] 3)) (.cells #[.slice none 0 0] 49)
  have IT := Lib.hid (h.keep hb2)
  have W2 := Lib.hid hb2
  have XN := blk_alloc (blk_new w (.cells #[.int .i64 n] 3)) (.cells #[.slice none 0 0] 49)
  have XL := blk_two w (.cells #[.int .i64 n] 3) (.cells #[.slice none 0 0] 49)
  have RB := Lib.hid (⟨XL, XN, OwnL.nil _ _ _ _ _⟩ : RB1 ((w.alloc (.cells #[.int .i64 n] 3)).alloc (.cells #[.slice none 0 0] 49)) w.heap.size (w.heap.size + 1) w.heap.size n (.slice none 0 0) [])
  have Y := Lib.hid (walked_yield g b w.heap.size l n w _ RB.out IT.out hn (by omega))
  clear h hb2 XN XL
  unfold allFn
  go_enter Try.func33, Try.ntmps33
  go_wp2_with fail
  (with_reducible refine Y.out.mono ?_)
  rintro e w4 ⟨rfl, v, rb4, k4⟩
  have RB4 := Lib.hid rb4
  have q0 := rb4.cl
  have W4 := Lib.hid (below_only W2.out k4 (fun i hi => by omega))
  clear rb4 k4
  obtain ⟨V0, vc, rfl⟩ := RB4.out.o.slice
  obtain ⟨A9, a9, e9, l9⟩ := RB4.out.o.lst (fun _ _ h => h)
  have E9 := Lib.hid e9
  have L9 := Lib.hid l9
  clear e9 l9
  go_wp2_with fail
  go_ret
  exact ⟨A9, a9, by rw [← E9.out]; first | rfl | simp, L9.out, W4.out⟩
end Go.Proofs.Ytnhfeoniiadjfaa.Lst
/- The function within which TableWalks walks again. -/
namespace Go.Proofs.Ytnhfeoniiadjfaa.Lst
open Go.RowKit Go.Proofs.Ytnhfeoniiadjfaa.K Go.Proofs.Ytnhfeoniiadjfaa.Help Go.Proofs.Ytnhfeoniiadjfaa.Pfx Go.Proofs.Ytnhfeoniiadjfaa.Peer
set_option linter.unusedVariables false
/-- a block of one cell that holds neither a slice nor a map nor a byte -/
def BoxP (w : World) (p : Nat) : Prop := ∃ v t, w.heap[p]? = some (.cells #[v] t (0, 0)) ∧ (∀ A n c, v ≠ .slice A n c) ∧ (∀ b, v ≠ .map b) ∧ (∀ x, v ≠ .int .u8 x)
theorem BoxP.cell {w : World} {p j : Nat} {u : Value} (h : BoxP w p) (e : w.cell? ⟨p, j, none⟩ = some u) : (∀ A n c, u ≠ .slice A n c) ∧ (∀ b, u ≠ .map b) ∧ (∀ x, u ≠ .int .u8 x) := by
  obtain ⟨v, t, hb, h⟩ := h
  rw [blk_cell hb j] at e
  match j with
  | 0 => have : v = u := by simpa using e
         rw [← this]; exact h
  | j + 1 => simp at e
theorem BoxP.noU8 {w : World} {p : Nat} (h : BoxP w p) : NoU8 w p := fun j x e => (h.cell e).2.2 _ rfl
theorem BoxP.noMap {w : World} {p b n : Nat} {l : List RowD} (h : BoxP w p) (k : TMap w b n l) : b ≠ p := fun e => by
  obtain ⟨v, t, hb, _⟩ := h
  obtain ⟨es, cl, hh⟩ := k.isMap
  rw [e, hb] at hh
  cases hh
section
variable {w w' : World} {p : Nat}
theorem lstR_box {A : Option Addr} {c : Nat} {l : List RowD} (h : Lst RowE w (fun _ => False) A c l) (k : Only w w' (fun i => i = p)) (hp : BoxP w p) : Lst RowE w' (fun _ => False) A c l :=
  ⟨h.le, h.max, fun i x hx => by
    obtain ⟨bk, off, raw, e, hlt, _, hc, A1, a1, B1, b1, er, s1, s2⟩ := h.at_ i x hx
    subst er
    have hne : bk ≠ p := fun e => by
      have h0 := hc 0 (by decide)
      rw [e] at h0
      exact (hp.cell h0).1 _ _ _ rfl
    exact ⟨bk, off, _, e, Nat.lt_of_lt_of_le hlt k.size, id, fun j hj => (cell_blk (ad := ⟨bk, _, none⟩) (k.block bk hlt hne)).trans (hc j hj), A1, a1, B1, b1, rfl,
      ⟨bs_only s1.1 k (fun i hi _ => by rw [hi]; exact hp.noU8), fun _ _ _ h => h⟩, ⟨bs_only s2.1 k (fun i hi _ => by rw [hi]; exact hp.noU8), fun _ _ _ h => h⟩⟩⟩
theorem TMap.box {b n : Nat} {l : List RowD} (h : TMap w b n l) (k : Only w w' (fun i => i = p)) (hp : BoxP w p) : TMap w' b n l := h.only k (hp.noMap h) (fun i hi _ => by rw [hi]; exact hp.noU8)
theorem BoxP.neMap {g b : Nat} {t : TypeId} (hp : BoxP w p) (h : w.heap[g]? = some (.cells #[.map b] t (0, 0))) : g ≠ p := fun e => by
  have := (blk_cell h 0).trans (b := some (Value.map b)) rfl
  rw [e] at this
  exact (hp.cell this).2.1 _ rfl
theorem TIter.box {g b : Nat} {l : List RowD} (h : TIter w g b l) (k : Only w w' (fun i => i = p)) (hp : BoxP w p) : TIter w' g b l := ⟨k.blk h.blk (hp.neMap h.blk), h.map.box k hp⟩
theorem TTab.box {q b n : Nat} {l : List RowD} (h : TTab w q b n l) (k : Only w w' (fun i => i = p)) (hp : BoxP w p) : TTab w' q b n l := ⟨k.blk h.blk (hp.neMap h.blk), h.map.box k hp⟩
end
/-- the variables that TableWalks's function sees -/
structure WkB (w : World) (gw gn ga gi gc g b : Nat) (Aw : Option Addr) (cw m : Nat) (c : Int) (T : List RowD) : Prop where
  hw : w.heap[gw]? = some (.cells #[.slice Aw m cw] 49 (0, 0))
  hn : w.heap[gn]? = some (.cells #[.int .i64 (m : Int)] 3 (0, 0))
  ha : w.heap[ga]? = some (.cells #[allFn g] 70 (0, 0))
  hi : w.heap[gi]? = some (.cells #[.bool true] 4 (0, 0))
  hc : w.heap[gc]? = some (.cells #[.int .i64 c] 3 (0, 0))
  ne : gn ≠ gc
  it : TIter w g b T
  ls : Lst RowE w (fun _ => False) Aw cw T
section
variable {w w' : World} {gw gn ga gi gc g b cw m : Nat} {Aw : Option Addr} {c : Int} {T : List RowD}
theorem WkB.keep (h : WkB w gw gn ga gi gc g b Aw cw m c T) (hb : Below w.heap.size w w') : WkB w' gw gn ga gi gc g b Aw cw m c T :=
  ⟨(hb.block _ (blk_lt h.hw)).trans h.hw, (hb.block _ (blk_lt h.hn)).trans h.hn, (hb.block _ (blk_lt h.ha)).trans h.ha, (hb.block _ (blk_lt h.hi)).trans h.hi, (hb.block _ (blk_lt h.hc)).trans h.hc, h.ne, h.it.keep hb, h.ls.below hb⟩
theorem WkB.boxC (h : WkB w gw gn ga gi gc g b Aw cw m c T) : BoxP w gc := ⟨_, _, h.hc, (fun _ _ _ e => by cases e), (fun _ e => by cases e), (fun _ e => by cases e)⟩
theorem WkB.boxI (h : WkB w gw gn ga gi gc g b Aw cw m c T) : BoxP w gi := ⟨_, _, h.hi, (fun _ _ _ e => by cases e), (fun _ e => by cases e), (fun _ e => by cases e)⟩
theorem WkB.bump (h : WkB w gw gn ga gi gc g b Aw cw m c T) (c' : Int) : WkB (w.setCell ⟨gc, 0, none⟩ (.int .i64 c')) gw gn ga gi gc g b Aw cw m c' T := by
  have k : Only w (w.setCell ⟨gc, 0, none⟩ (.int .i64 c')) (fun i => i = gc) := (Only.refl w (fun i => i = gc)).setCell (p := ⟨gc, 0, none⟩) (.inl rfl) _
  exact ⟨blk_far h.hw (fun e => blk_ne (e ▸ h.hw) h.hc (by decide) rfl) _, blk_far h.hn h.ne _, blk_far h.ha (fun e => blk_ne (e ▸ h.ha) h.hc (by decide) rfl) _, blk_far h.hi (fun e => blk_ne (e ▸ h.hi) h.hc (by decide) rfl) _, blk_set h.hc 0 _, h.ne, h.it.box k h.boxC, lstR_box h.ls k h.boxC⟩
theorem WkB.inn (h : WkB w gw gn ga gi gc g b Aw cw m c T) : WkB (w.setCell ⟨gi, 0, none⟩ (.bool true)) gw gn ga gi gc g b Aw cw m c T := by
  have k : Only w (w.setCell ⟨gi, 0, none⟩ (.bool true)) (fun i => i = gi) := (Only.refl w (fun i => i = gi)).setCell (p := ⟨gi, 0, none⟩) (.inl rfl) _
  exact ⟨blk_far h.hw (fun e => blk_ne (e ▸ h.hw) h.hi (by decide) rfl) _, blk_far h.hn (fun e => blk_ne (e ▸ h.hn) h.hi (by decide) rfl) _, blk_far h.ha (fun e => blk_ne (e ▸ h.ha) h.hi (by decide) rfl) _, blk_set h.hi 0 _, blk_far h.hc (fun e => blk_ne (e ▸ h.hc) h.hi (by decide) rfl) _, h.ne, h.it.box k h.boxI, lstR_box h.ls k h.boxI⟩
end
set_option maxRecDepth 100000 in
set_option maxHeartbeats 2000000 in
theorem walks1_any (gw gn ga gi gc g b cw m c : Nat) (Aw : Option Addr) (T : List RowD) (u v : Value) (W : World) (h : WkB W gw gn ga gi gc g b Aw cw m (c : Int) T) (hm : m = T.length) (hmb : m ≤ 100000) (hcb : c ≤ 1000000) :
    Calls Try.prog 35 #[u, v, .pointer (some ⟨gc, 0, none⟩), .pointer (some ⟨ga, 0, none⟩), .pointer (some ⟨gn, 0, none⟩), .pointer (some ⟨gi, 0, none⟩), .pointer (some ⟨gw, 0, none⟩)] W
      (fun e W' => e = .returned (.bool (decide ((c : Int) + 1 ≤ (m : Int)))) ∧ WkB W' gw gn ga gi gc g b Aw cw m ((c + 1 : Nat) : Int) T ∧ Only W W' (fun i => i = gc ∨ i = gi)) := by
  have H0 := Lib.hid h
  have c0 := (blk_cell h.hc 0).trans (b := some (Value.int .i64 (c : Int))) rfl
  have z0 := blk_free h.hc 0
  have H1 := Lib.hid (h.bump ((c : Int) + 1))
  have K1 : Hid (Only W (W.setCell ⟨gc, 0, none⟩ (.int .i64 ((c : Int) + 1))) (fun i => i = gc ∨ i = gi)) := Lib.hid ((Only.refl W (fun i => i = gc ∨ i = gi)).setCell (p := ⟨gc, 0, none⟩) (.inl (.inl rfl)) _)
  have HM := Lib.hid hm
  clear h hm
  have c1 := (blk_cell H1.out.hc 0).trans (b := some (Value.int .i64 ((c : Int) + 1))) rfl
  have d1 := (blk_cell H1.out.ha 0).trans (b := some (allFn g)) rfl
  have e1 := (blk_cell H1.out.hn 0).trans (b := some (Value.int .i64 (m : Int))) rfl
  have WA := Lib.hid (fun w (h : WkB w gw gn ga gi gc g b Aw cw m ((c : Int) + 1) T) => walked_any g b T ((m : Int) + 1) w h.it (by rw [← HM.out]; exact hmb) (by omega) (by omega))
  rw [List.take_of_length_le (by rw [← HM.out]; omega)] at WA
  go_enter Try.func35, Try.ntmps35
  by_cases h4 : (c : Int) + 1 < 4
  · go_wp2_with fail
    (with_reducible refine (WA.out _ H1.out).mono ?_)
    rintro e w2 ⟨A2, c2, rfl, l2, hb2⟩
    have H2 := Lib.hid (H1.out.keep hb2)
    have K2 := Lib.hid (K1.out.then_ (Only.of_below hb2 (fun i => i = gc ∨ i = gi)) (fun i h => .inl h))
    clear c1 d1 e1 c0 z0 hb2 K1 H1
    have SR := Lib.hid (sameRows_any A2 Aw c2 cw T T w2 l2 H2.out.ls)
    rw [show decide (T = T) = true by simp, ← HM.out] at SR
    have f0 := (blk_cell H2.out.hi 0).trans (b := some (Value.bool true)) rfl
    have f1 := (blk_cell H2.out.hw 0).trans (b := some (Value.slice Aw m cw)) rfl
    rw [← HM.out]
    clear l2
    go_wp2_with fail
    (with_reducible refine SR.out.mono ?_)
    rintro e w3 ⟨rfl, hb3⟩
    have H3 := Lib.hid (H2.out.keep hb3)
    have K3 := Lib.hid (K2.out.then_ (Only.of_below hb3 (fun i => i = gc ∨ i = gi)) (fun i h => .inl h))
    have y0 := blk_free H3.out.hi 0
    have g0 := (blk_cell H3.out.hi 0).trans (b := some (Value.bool true)) rfl
    have H4 := Lib.hid H3.out.inn
    have K4 : Hid (Only W (w3.setCell ⟨gi, 0, none⟩ (.bool true)) (fun i => i = gc ∨ i = gi)) := Lib.hid (K3.out.setCell (p := ⟨gi, 0, none⟩) (.inl (.inr rfl)) _)
    have c1 := (blk_cell H4.out.hc 0).trans (b := some (Value.int .i64 ((c : Int) + 1))) rfl
    have e1 := (blk_cell H4.out.hn 0).trans (b := some (Value.int .i64 (m : Int))) rfl
    clear f0 f1 hb3 H2 H3 K2 K3 SR
    go_wp2_with fail
    go_ret
    exact ⟨by first | rfl | simp, H4.out, K4.out⟩
  · go_wp2_with fail
    go_ret
    exact ⟨by first | rfl | simp, H1.out, K1.out⟩
end Go.Proofs.Ytnhfeoniiadjfaa.Lst
/- The walk of TableWalks. -/
namespace Go.Proofs.Ytnhfeoniiadjfaa.tableWalks
open Go.RowKit Go.Proofs.Ytnhfeoniiadjfaa.K Go.Proofs.Ytnhfeoniiadjfaa.Help Go.Proofs.Ytnhfeoniiadjfaa.Lst Go.Proofs.Ytnhfeoniiadjfaa.Peer
set_option linter.unusedVariables false
/-- All, each row handed to the function that walks again -/
theorem again (gw gn ga gi gc g b cw m : Nat) (Aw : Option Addr) (T : List RowD) (w : World) (h : WkB w gw gn ga gi gc g b Aw cw m (0 : Int) T) (hm : m = T.length) (hmb : m ≤ 100000) :
    Calls Try.prog 62 #[.func (.func 35) #[] #[.pointer (some ⟨gc, 0, none⟩), .pointer (some ⟨ga, 0, none⟩), .pointer (some ⟨gn, 0, none⟩), .pointer (some ⟨gi, 0, none⟩), .pointer (some ⟨gw, 0, none⟩)], .pointer (some ⟨g, 0, none⟩)] w
      (fun e w' => e = .returned (.tuple #[]) ∧ WkB w' gw gn ga gi gc g b Aw cw m (m : Int) T ∧ Only w w' (fun i => i = gc ∨ i = gi)) := by
  have hc := blk_lt h.hc
  have hi := blk_lt h.hi
  refine (all1_gen 35 #[.pointer (some ⟨gc, 0, none⟩), .pointer (some ⟨ga, 0, none⟩), .pointer (some ⟨gn, 0, none⟩), .pointer (some ⟨gi, 0, none⟩), .pointer (some ⟨gw, 0, none⟩)] (enters_of Try.func35 (by kernel_rfl) rfl) g b T w (fun i => i = gc ∨ i = gi) (fun i hi' => by rcases hi' with e | e <;> rw [e] <;> assumption)
    (fun M k W => WkB W gw gn ga gi gc g b Aw cw m (k : Int) T ∧ Only w W (fun i => i = gc ∨ i = gi))
    (fun W => False) h.it ?_ ?_ ?_ (by omega) ?_).mono ?_
  · intro W1 hb
    exact ⟨h.keep hb, Only.of_below hb _⟩
  · rintro M k W W' ⟨h1, h2⟩ hb
    exact ⟨h1.keep hb, h2.then_ (Only.of_below hb (fun i => i = gc ∨ i = gi)) (fun i hi => .inl hi)⟩
  · rintro M k W ⟨h1, h2⟩
    exact h1.it
  · rintro M k N W A B a d hk ⟨h1, h2⟩ hM hMN hNW hA hB hnA hnB
    refine (walks1_any gw gn ga gi gc g b cw m k Aw T _ _ W h1 hm hmb (by omega)).mono ?_
    rintro e W' ⟨rfl, h3, h4⟩
    refine ⟨h4.mono (fun i _ hi => .inl hi), .inl ⟨?_, h3, h2.then_ h4 (fun i hi => .inl hi)⟩⟩
    rw [decide_eq_true (by omega)]
  · rintro e w' ⟨rfl, h1 | h1⟩
    · obtain ⟨M, h1, h2⟩ := h1
      rw [← hm] at h1
      exact ⟨rfl, h1, h2⟩
    · exact h1.elim
theorem bs_two {w w' : World} {A : Option Addr} {c p q : Nat} {l : List UInt8} (h : Bs w A c l) (k : Only w w' (fun i => i = p ∨ i = q)) (hp : BoxP w p) (hq : BoxP w q) : Bs w' A c l :=
  bs_only h k (fun i hi _ => by rcases hi with rfl | rfl <;> first | exact hp.noU8 | exact hq.noU8)
theorem ttab_two {w w' : World} {p q x b n : Nat} {l : List RowD} (h : TTab w x b n l) (k : Only w w' (fun i => i = p ∨ i = q)) (hp : BoxP w p) (hq : BoxP w q) : TTab w' x b n l :=
  ⟨k.blk h.blk (fun e => e.elim (hp.neMap h.blk) (hq.neMap h.blk)), h.map.only k (fun e => e.elim (hp.noMap h.map) (hq.noMap h.map)) (fun i hi _ => by rcases hi with rfl | rfl <;> first | exact hp.noU8 | exact hq.noU8)⟩
set_option maxRecDepth 100000 in
set_option maxHeartbeats 8000000 in
theorem walk (A : Option Addr) (a : Nat) (l : List SetD) (A' : Option Addr) (a' : Nat) (o : List SetD) (st : Int) (_ : -9223372036854775808 ≤ st) (_ : st ≤ 9223372036854775807) (W : World) (hl : Lst SetE W (fun _ => False) A a l) (ho : Lst SetE W (fun _ => False) A' a' o) :
    Calls Try.prog 6 #[.slice A l.length a, .slice A' o.length a', .int .i64 st] W fun e W' => e = .returned (.bool true) ∧ Below W.heap.size W W' := by
  have P1 := Lib.hid (first13_any W)
  have S0 := hand (hstart ho) hl
  clear hl ho
  obtain ⟨nl, hnl⟩ : ∃ n, n = l.length := ⟨_, rfl⟩
  obtain ⟨no, hno⟩ : ∃ n, n = o.length := ⟨_, rfl⟩
  rw [← hnl, ← hno]
  have HNL := Lib.hid hnl
  have HNO := Lib.hid hno
  clear hnl hno
  go_enter Try.func6, Try.ntmps6
  go_wp2_with fail
  (with_reducible refine P1.out.mono ?_)
  rintro e w1 ⟨rfl, hb1⟩
  have S1 := hand (hkeep hb1 S0) hb1
  clear hb1 S0 P1
  have F1 : Hid (Calls Try.prog 19 #[.slice A nl a, .int .i64 60] w1 (RetFt w1 (fitD l 60))) := by
    have := fit_any A a l 60 w1 S1.out.2.1 (by decide)
    rw [← HNL.out] at this
    exact Lib.hid this
  have F2 : Hid (∀ w, Lst SetE w (fun _ => False) A' a' o → Calls Try.prog 19 #[.slice A' no a', .int .i64 60] w (RetFt w (fitD o 60))) := Lib.hid (fun w h => by
    have := fit_any A' a' o 60 w h (by decide)
    rw [← HNO.out] at this
    exact this)
  have HLA := Lib.hid (fitD_all l 60)
  have HLL := Lib.hid (fitD_len l 60)
  generalize fitD l 60 = L at *
  have HOA := Lib.hid (fitD_all o 60)
  have HOL := Lib.hid (fitD_len o 60)
  generalize fitD o 60 = O at *
  clear HNL HNO
  go_wp2_with fail
  (with_reducible refine F1.out.mono ?_)
  rintro e w2 ⟨A2, a2, rfl, o2, hb2⟩
  obtain ⟨A2', a2', e2, l2⟩ := o2.lst (fun _ _ h => h)
  cases e2
  have S2 := hand (hkeep hb2 S1) l2
  clear o2 l2 hb2 S1 F1
  have B1 := Lib.hid (built_any A2 a2 L w2 S2.out.1 (by have := HLL.out; omega) HLA.out)
  obtain ⟨T, hT⟩ : ∃ T, T = appL [] L := ⟨_, rfl⟩
  have HT := Lib.hid hT
  rw [← hT] at B1
  clear hT
  obtain ⟨n, hn⟩ : ∃ n, n = L.length := ⟨_, rfl⟩
  have HN := Lib.hid hn
  have hnb : n ≤ 60 := by rw [hn]; exact HLL.out
  rw [← hn] at B1 ⊢
  clear hn
  go_wp2_with fail
  (with_reducible refine B1.out.mono ?_)
  rintro e w3 ⟨pt, bt, rfl, t3, -, hbt, hb3⟩
  have HBT : Hid (W.heap.size ≤ bt) := Lib.hid (Nat.le_trans S2.out.2.1.size hbt)
  have S3 := hand (hkeep hb3 S2) t3
  clear t3 hbt hb3 S2 B1
  have HTL : Hid (T.length ≤ n) := Lib.hid S3.out.1.map.len_le
  have P5 := Lib.hid (len_any pt bt n T w3 S3.out.1)
  obtain ⟨m, hm⟩ : ∃ m, m = T.length := ⟨_, rfl⟩
  have HM := Lib.hid hm
  have hmb : m ≤ 60 := by rw [hm]; have := HTL.out; omega
  have P6 : Hid (Calls Try.prog 23 #[.pointer (some ⟨pt, 0, none⟩), .int .i64 (m : Int)] w3 (RetL RowE w3 T)) := by
    have := rows_tab pt bt n T (m : Int) w3 S3.out.1 (by omega) (by omega) (by omega)
    rw [List.take_of_length_le (by rw [← hm]; omega)] at this
    exact Lib.hid this
  rw [← hm] at P5
  clear hm
  go_wp2_with fail
  (with_reducible refine P5.out.mono ?_)
  rintro e wq ⟨rfl, rfl⟩
  go_wp2_with fail
  (with_reducible refine P6.out.mono ?_)
  rintro e w4 ⟨Aw, cw, rfl, l4, hb4⟩
  have S4 := hand (hkeep hb4 S3) l4
  have r1 := l4.le
  have r2 := l4.max
  rw [← HM.out] at r1 ⊢
  clear l4 hb4 S3 P5 P6
  have hb6 := below_alloc (below_alloc (Below.refl w4.heap.size w4) (.cells #[.slice Aw m cw] 49)) (.cells #[.int .i64 (m : Int)] 3)
  have S6 := hand (hand (hkeep hb6 S4) (blk_alloc (blk_new w4 (.cells #[.slice Aw m cw] 49)) (.cells #[.int .i64 (m : Int)] 3))) (blk_two w4 (.cells #[.slice Aw m cw] 49) (.cells #[.int .i64 (m : Int)] 3))
  clear hb6 S4
  have HQ : ∃ q : Nat, q ≤ m ∧ (0 < m → 1 ≤ q) ∧ ((st < 1 ∧ m = q) ∨ (¬ st < 1 ∧ (m : Int) < st ∧ m = q) ∨ (¬ st < 1 ∧ ¬ (m : Int) < st ∧ st = (q : Int))) := by
    by_cases h1 : st < 1
    · exact ⟨m, Nat.le_refl _, id, .inl ⟨h1, rfl⟩⟩
    · by_cases h2 : (m : Int) < st
      · exact ⟨m, Nat.le_refl _, id, .inr (.inl ⟨h1, h2, rfl⟩)⟩
      · exact ⟨st.toNat, by omega, fun _ => by omega, .inr (.inr ⟨h1, h2, by omega⟩)⟩
  obtain ⟨q, hq1, hq2, HQ⟩ := HQ
  have WQ : Hid (0 < m → ∀ (g b : Nat) (w : World), TIter w g b T → Calls Try.prog 33 #[.func (.func 62) #[] #[.pointer (some ⟨g, 0, none⟩)], .int .i64 (q : Int)] w (RetL RowE w (T.take q))) := Lib.hid (fun h0 g b w h => by
    have := walked_any g b T (q : Int) w h (by rw [← HM.out]; omega) (by have := hq2 h0; omega) (by omega)
    rwa [Int.toNat_natCast] at this)
  have WN : Hid (∀ (g b : Nat) (w : World), TIter w g b T → Calls Try.prog 33 #[.func (.func 62) #[] #[.pointer (some ⟨g, 0, none⟩)], .int .i64 ((m : Int) + 1)] w (RetL RowE w T)) := Lib.hid (fun g b w h => by
    have := walked_any g b T ((m : Int) + 1) w h (by rw [← HM.out]; omega) (by omega) (by omega)
    rwa [List.take_of_length_le (by rw [← HM.out]; omega)] at this)
  have HTQ : Hid ((T.take q).length = q) := Lib.hid (by rw [List.length_take, ← HM.out]; omega)
  have R1 : Hid (∀ (W : World), (∀ a, Aw = some a → a.spot = none) → (Instr.slice 49 (.slice Aw m cw) none (some (.int .i64 (q : Int))) none).run Try.prog W = .ok (.slice Aw q cw) W) := Lib.hid (fun W h => run_firstR hq1 r1 W h)
  have FQ : Hid (∀ w, Lst RowE w (fun _ => False) Aw cw T → Lst RowE w (fun _ => False) Aw cw (T.take q)) := Lib.hid (fun w h => h.first (by rw [← HM.out]; exact hq1))
  have SQ := Lib.hid (fun A c w h1 h2 => sameRows_any A Aw c cw (T.take q) (T.take q) w h1 h2)
  rw [show decide (T.take q = T.take q) = true by simp] at SQ
  have SN := Lib.hid (fun A c w h1 h2 => sameRows_any A Aw c cw T T w h1 h2)
  rw [show decide (T = T) = true by simp] at SN
  rw [HTQ.out] at SQ
  rw [← HM.out] at SN
  have HSP : Hid (∀ w, Lst RowE w (fun _ => False) Aw cw T → 0 < m → ∀ a, Aw = some a → a.spot = none) := Lib.hid (fun w h h0 a e => by
    obtain ⟨bk, off, raw, e', _⟩ := h.at_ 0 _ (List.getElem?_eq_getElem (by rw [← HM.out]; exact h0))
    rw [e] at e'
    cases e'
    rfl)
  unfold allFn at WQ WN
  clear hq2 hq1
  have AL := Lib.hid (all_any pt bt n T _ S6.out.2.2.2.1 (by omega))
  clear r1 r2
  rcases HQ with ⟨s1, rfl⟩ | ⟨s1, s2, rfl⟩ | ⟨s1, s2, rfl⟩
  all_goals
    go_wp2_with fail
    (with_reducible refine AL.out.mono ?_)
    unfold RetAll allFn
    rintro e w7 ⟨g, b, rfl, hg, hb, it7, hb7⟩
    have hb8 := below_alloc (Below.refl w7.heap.size w7) (.cells #[.func (.func 62) #[] #[.pointer (some ⟨g, 0, none⟩)]] 70)
    have S8 := hand (hand (hkeep hb8 (hkeep hb7 S6)) (it7.keep hb8)) (blk_new w7 (.cells #[.func (.func 62) #[] #[.pointer (some ⟨g, 0, none⟩)]] 70))
    have NB : NeN b bt := ⟨by have := S6.out.2.2.2.1.map.lt; omega⟩
    have hnil : ∀ W : World, (binOp .eql 70 (.func (.func 62) #[] #[.pointer (some ⟨g, 0, none⟩)]) Value.nilFunc).run Try.prog W = .ok (.bool false) W := fun W => by kernel_rfl
    have x0 := (blk_cell S8.out.1 0).trans (b := some (Value.func (.func 62) #[] #[.pointer (some ⟨g, 0, none⟩)])) rfl
    clear hg hb it7 hb7 hb8 S6 AL
    go_wp2_with fail
    (with_reducible refine (F2.out _ S8.out.2.2.2.2.2.2.2.2.2.1).mono ?_)
    rintro e w9 ⟨A9, a9, rfl, o9, hb9⟩
    obtain ⟨A9', a9', e9, l9⟩ := o9.lst (fun _ _ h => h)
    cases e9
    have S9 := hand (hkeep hb9 S8) l9
    have T9 := Lib.hid S9.out.2.2.2.2.2.2.1
    have S9' := Lib.hid (⟨S9.out.1, S9.out.2.1, S9.out.2.2.1, S9.out.2.2.2.1, S9.out.2.2.2.2.1, S9.out.2.2.2.2.2.1, S9.out.2.2.2.2.2.2.2.2.1, trivial⟩ : _ ∧ _ ∧ _ ∧ _ ∧ _ ∧ _ ∧ _ ∧ True)
    clear o9 l9 hb9 S8 S9 x0 F2
    have AP := Lib.hid (apply_any pt bt n T A9 a9 O w9 T9.out S9'.out.1 (by omega) (by have := HOL.out; omega))
    go_wp2_with fail
    (with_reducible refine AP.out.mono ?_)
    rintro e w10 (⟨-, rfl, t10, k10⟩ | ⟨hf, -, -⟩)
    rotate_left
    · exact absurd (HOA.out.symm.trans hf) (by decide)
    have S10 := hand (mkeep k10 T9.out.map.isMap HBT.out S9') t10
    clear t10 k10 S9' T9 AP
    go_wp2_with fail
    (with_reducible refine (num13_any _ _).mono ?_)
    rintro e wq ⟨rfl, rfl⟩
    generalize appL T O = T2 at *
    have HNO : Hid (n + O.length ≤ 100000) := Lib.hid (by have := HOL.out; omega)
    have Q3 := Lib.hid (fun w h => tbytes_any pt bt _ T2 w h HNO.out)
    generalize (putSetsD (T2.map setOf)).1 = bT at *
    go_wp2_with fail
    (with_reducible refine (Q3.out _ S10.out.1).mono ?_)
    rintro e w11 ⟨A11, c11, rfl, s11, hb11⟩
    have S11 := hand (hkeep hb11 S10) s11
    clear s11 hb11 S10
    go_wp2_with fail
    go_loopg [15] 3 (fun gk i wr => ∃ z : Nat, z ≤ 3 ∧ gk = 3 - z ∧ i = .int .i64 (z : Int) ∧ Hid (Below w11.heap.size w11 wr))
    case atStart => exact ⟨0, by omega, rfl, rfl, Below.refl _ _⟩
    case round =>
      obtain ⟨z, hz, rfl, rfl, HB⟩ := hrel
      have Sr := hkeep HB.out S11
      by_cases hlt : z < 3
      · have i3 : (z : Int) < 3 := by omega
        have x0 := (blk_cell Sr.out.2.2.2.1 0).trans (b := some (Value.func (.func 62) #[] #[.pointer (some ⟨g, 0, none⟩)])) rfl
        have x1 := (blk_cell Sr.out.2.2.2.2.2.1 0).trans (b := some (Value.int .i64 (m : Int))) rfl
        have WN1 := Lib.hid (WN.out g b wr Sr.out.2.2.2.2.1)
        go_wp2_with fail
        (with_reducible refine WN1.out.mono ?_)
        rintro e w12 ⟨A12, c12, rfl, l12, hb12⟩
        have S12 := hand (hkeep hb12 Sr) l12
        have HB12 := Lib.hid (below_step HB.out hb12)
        rw [← HM.out]
        have x2 := (blk_cell S12.out.2.2.2.2.2.2.2.1 0).trans (b := some (Value.slice Aw m cw)) rfl
        have SN1 := Lib.hid (SN.out A12 c12 w12 S12.out.1 S12.out.2.2.2.2.2.2.2.2.1)
        clear x0 x1 WN1 l12 hb12 Sr
        go_wp2_with fail
        (with_reducible refine SN1.out.mono ?_)
        rintro e w13 ⟨rfl, hb13⟩
        have S13 := hkeep hb13 S12
        have HB13 := Lib.hid (below_step HB12.out hb13)
        have x1 := (blk_cell S13.out.2.2.2.2.2.2.1 0).trans (b := some (Value.int .i64 (m : Int))) rfl
        clear x2 SN1 hb13 S12
        rcases Nat.eq_zero_or_pos m with hm0 | hm0
        · have i4 : ¬ (0 : Int) < (m : Int) := by omega
          clear hm0
          go_wp2_with fail
          all_goals
            go_roundg (3 - (z + 1))
            case measure => omega
            case rel => exact ⟨z + 1, by omega, rfl, by go_num, HB13⟩
        · have i4 : (0 : Int) < (m : Int) := by omega
          have x0 := (blk_cell S13.out.2.2.2.2.1 0).trans (b := some (Value.func (.func 62) #[] #[.pointer (some ⟨g, 0, none⟩)])) rfl
          have WQ1 := Lib.hid (WQ.out hm0 g b w13 S13.out.2.2.2.2.2.1)
          go_wp2_with fail
          (with_reducible refine WQ1.out.mono ?_)
          rintro e w14 ⟨A14, c14, rfl, l14, hb14⟩
          rw [HTQ.out]
          have S14 := hand (hkeep hb14 S13) l14
          have HB14 := Lib.hid (below_step HB13.out hb14)
          have x2 := (blk_cell S14.out.2.2.2.2.2.2.2.2.1 0).trans (b := some (Value.slice Aw m cw)) rfl
          have SQ1 := Lib.hid (SQ.out A14 c14 w14 S14.out.1 (FQ.out w14 S14.out.2.2.2.2.2.2.2.2.2.1))
          have R14 := R1.out w14 (HSP.out w14 S14.out.2.2.2.2.2.2.2.2.2.1 hm0)
          clear x0 x1 WQ1 l14 hb14 S13
          go_wp2_with fail
          (with_reducible refine SQ1.out.mono ?_)
          rintro e w15 ⟨rfl, hb15⟩
          have HB15 := Lib.hid (below_step HB14.out hb15)
          clear x2 SQ1 R14 hb15 S14
          go_wp2_with fail
          go_roundg (3 - (z + 1))
          case measure => omega
          case rel => exact ⟨z + 1, by omega, rfl, by go_num, HB15⟩
      · obtain rfl : z = 3 := by omega
        have i3 : ¬ ((3 : Nat) : Int) < 3 := by omega
        have i3' : ¬ (3 : Int) < 3 := by omega
        clear S11 HB
        have hb16 := below_alloc (below_alloc (Below.refl wr.heap.size wr) (.cells #[.bool true] 4)) (.cells #[.int .i64 0] 3)
        have S16 := hkeep hb16 Sr
        have NGC := Lib.hid (blk_lt Sr.out.2.2.2.2.2.1)
        have WB := Lib.hid (⟨S16.out.2.2.2.2.2.2.1, S16.out.2.2.2.2.2.1, S16.out.2.2.2.1, blk_alloc (blk_new wr (.cells #[.bool true] 4)) (.cells #[.int .i64 0] 3), blk_two wr (.cells #[.bool true] 4) (.cells #[.int .i64 0] 3), (by have := NGC.out; omega), S16.out.2.2.2.2.1, S16.out.2.2.2.2.2.2.2.1⟩ : WkB ((wr.alloc (.cells #[.bool true] 4)).alloc (.cells #[.int .i64 0] 3)) w4.heap.size (w4.heap.size + 1) w7.heap.size wr.heap.size (wr.heap.size + 1) g b Aw cw m (0 : Int) T)
        have AG := Lib.hid (again _ _ _ _ _ g b cw m Aw T _ WB.out HM.out (by omega))
        have x0 := (blk_cell S16.out.2.2.2.1 0).trans (b := some (Value.func (.func 62) #[] #[.pointer (some ⟨g, 0, none⟩)])) rfl
        have SZ := Lib.hid Sr.out.2.2.2.2.2.2.2.2.1.size
        clear hb16 Sr
        go_wp2_with fail
        (with_reducible refine AG.out.mono ?_)
        rintro e w17 ⟨rfl, h17, k17⟩
        have S17 := Lib.hid (⟨bs_two S16.out.1 k17 WB.out.boxC WB.out.boxI, ttab_two S16.out.2.1 k17 WB.out.boxC WB.out.boxI, below_only S16.out.2.2.2.2.2.2.2.2.1 k17 (fun i hi => by have := SZ.out; rcases hi with e | e <;> omega), h17, trivial⟩ : Bs w17 A11 c11 bT ∧ TTab w17 pt bt _ T2 ∧ Below W.heap.size W w17 ∧ WkB w17 w4.heap.size (w4.heap.size + 1) w7.heap.size wr.heap.size (wr.heap.size + 1) g b Aw cw m (m : Int) T ∧ True)
        clear x0 AG S16 WB h17 k17
        have Q17 := Lib.hid (Q3.out w17 S17.out.2.1)
        go_wp2_with fail
        (with_reducible refine Q17.out.mono ?_)
        rintro e w18 ⟨A18, c18, rfl, s18, hb18⟩
        have WB18 := Lib.hid (S17.out.2.2.2.1.keep hb18)
        have SB18 := Lib.hid (Help.sameBytes A11 A18 c11 c18 bT bT w18 (S17.out.1.below hb18) s18)
        rw [show decide (bT = bT) = true by simp] at SB18
        have B18 := Lib.hid (below_step S17.out.2.2.1 hb18)
        have x0 := (blk_cell WB18.out.hi 0).trans (b := some (Value.bool true)) rfl
        have x1 := (blk_cell WB18.out.hc 0).trans (b := some (Value.int .i64 (m : Int))) rfl
        have x2 := (blk_cell WB18.out.hn 0).trans (b := some (Value.int .i64 (m : Int))) rfl
        have heq : ((m : Int) == (m : Int)) = true := by simp
        clear s18 hb18 S17 Q17
        go_wp2_with fail
        (with_reducible refine SB18.out.mono ?_)
        rintro e w19 ⟨q19, rfl, rfl⟩
        have BF := Lib.hid (below_drewN B18.out q19)
        generalize w18.drewN q19 = w19 at *
        clear x0 x1 x2 SB18 B18 WB18
        go_wp2_with fail
        exact bodyPost_ret (v := .bool true) (by simp [results, Try.results6, go_sem]) rfl ⟨rfl, BF.out⟩
end Go.Proofs.Ytnhfeoniiadjfaa.tableWalks
/- The walk of FromBytes, of long bytes that hold few sets. -/
namespace Go.Proofs.Ytnhfeoniiadjfaa.Lst
open Go.RowKit Go.Proofs.Ytnhfeoniiadjfaa.K Go.Proofs.Ytnhfeoniiadjfaa.Help Go.Proofs.Ytnhfeoniiadjfaa.Pfx Go.Proofs.Ytnhfeoniiadjfaa.Peer
set_option linter.unusedVariables false
set_option maxRecDepth 100000 in
set_option maxHeartbeats 4000000 in
theorem fromBytes2_any (A : Option Addr) (a : Nat) (L : List UInt8) (w : World) (ha : Bs w A a L) (hm : L.length ≤ 100000000) (hg : (getSetsD L).1.length ≤ 100000) :
    Calls Try.prog 38 #[.slice A L.length a] w (RetFB w (fromD L)) := by
  have P1 := Lib.hid (getSets_any A a L w ha (by omega))
  have HLN := Lib.hid hg
  have HER := Lib.hid (getSetsD_err L)
  have HFD : Hid (fromD L = if (getSetsD L).2 = 0 ∧ (getSetsD L).1.all stays = true then some ((getSetsD L).1.map rowOf) else none) := Lib.hid rfl
  have HAP : Hid ((getSetsD L).2 = 0 → (getSetsD L).1.all stays = true → appL [] (getSetsD L).1 = (getSetsD L).1.map rowOf) := Lib.hid (fun h1 h2 => by
    have h3 := app_rise (getSetsD_ok h1) h2 _ (Nat.le_refl _)
    rwa [List.take_of_length_le (Nat.le_refl _)] at h3)
  clear ha hm hg
  generalize fromD L = res at *
  generalize getSetsD L = r at *
  obtain ⟨ss, er⟩ := r
  dsimp only at HLN HER HFD HAP
  go_enter Try.func38, Try.ntmps38
  go_wp2_with fail
  (with_reducible refine P1.out.mono ?_)
  rintro e w1 ⟨B, d, rfl, ho, hb1⟩
  dsimp only at ho ⊢
  by_cases h0 : er = 0
  · subst h0
    obtain ⟨B', d', ev, hl0⟩ := ho.lst (N := fun i => i < w.heap.size) (fun i hi h => by have := ho.base_le hi; omega)
    cases ev
    have hl := hl0.free
    have S1 := hand (hstart hb1) hl
    have P2 := Lib.hid (new_any w1)
    have h1 := hl.le
    have h2 := hl.max
    clear hl hl0 ho hb1 P1 HER
    generalize hmm : ss.length = m at *
    have HM := Lib.hid hmm
    clear hmm
    go_wp2_with fail
    (with_reducible refine P2.out.mono ?_)
    rintro e w2 ⟨p, b, rfl, hp, hb, ht2, hb2⟩
    have S2 := hkeep hb2 S1
    have HS := Lib.hid (S2.out.1.avoidS ht2.map.noCell)
    have HP := Lib.hid (And.intro (Nat.le_trans S1.out.2.1.size hp) (Nat.le_trans S1.out.2.1.size hb))
    have T2 := Lib.hid (ht2.fresh HP.out.1 HP.out.2)
    clear hp hb ht2 hb2 S1 P2
    go_wp2_with fail
    go_loopg [20] m (fun gk i wr => ∃ j : Nat, j ≤ m ∧ gk = m - j ∧ i = .int .i64 (j : Int) ∧ Hid ((ss.take j).all stays = true) ∧ Hid (TTabN wr w.heap.size p b j (appL [] (ss.take j))) ∧ Hid (Only w2 wr (fun i => i = b)))
    case atStart => exact ⟨0, by omega, rfl, rfl, rfl, T2, Only.refl _ _⟩
    case round =>
      clear T2
      obtain ⟨j, hj, rfl, rfl, HST, T, HO⟩ := hrel
      by_cases hlt : j < m
      · have j1 : (j : Int) < (m : Int) := by omega
        have j0 : (0 : Int) ≤ (j : Int) := by omega
        have HTS := Lib.hid (take_fold appS zeroSet [] ss j (by rw [HM.out]; exact hlt))
        have HN1 := Lib.hid (fun h => all_stays_no (l := ss) (k := j) (by rw [HM.out]; exact hlt) h)
        have HN2 := Lib.hid (fun h => all_stays_step (l := ss) (k := j) (by rw [HM.out]; exact hlt) HST.out h)
        obtain ⟨bk, off, A1, a1, B1, b1, rfl, hbk, y0, y1, y2, s1, s2⟩ := (HS.out.only HO.out (fun i _ h => h)).set j _ (getD_get zeroSet (by rw [HM.out]; exact hlt))
        obtain ⟨⟨xk, xv, xg⟩, hx⟩ : ∃ y, ss.getD j zeroSet = y := ⟨_, rfl⟩
        rw [hx] at y0 y1 y2 s1 s2 HTS HN1 HN2
        dsimp only at y0 y1 y2 s1 s2 HN1 HN2
        have hb := below_alloc (Below.refl wr.heap.size wr) (.cells #[.slice A1 xk.length a1, .slice B1 xv.length b1, .bool xg] 37)
        have hx2 := blk_new wr (.cells #[.slice A1 xk.length a1, .slice B1 xv.length b1, .bool xg] 37)
        have T1 := Lib.hid (T.out.keep hb)
        have O1 := Lib.hid (HO.out.then_ (Only.of_below hb (fun i => i = b)) (fun i h => .inl h))
        have S1 := Lib.hid (s1.1.below hb)
        have S3 := Lib.hid (s2.1.below hb)
        have hap : (ss.take (j + 1)).foldl appS [] = appS (appL [] (ss.take j)) (xk, xv, xg) := HTS.out
        have HAP1 := Lib.hid hap
        clear hb hx hbk s1 s2 HTS hap
        have x0 := (blk_cell hx2 0).trans (b := some (Value.slice A1 xk.length a1)) rfl
        have x1 := (blk_cell hx2 1).trans (b := some (Value.slice B1 xv.length b1)) rfl
        have x2 := (blk_cell hx2 2).trans (b := some (Value.bool xg)) rfl
        have HX2 := Lib.hid hx2
        have HBB := Lib.hid T.out.map.old.lt
        clear hx2
        cases xg
        · have HAP2 : Hid (appL [] (ss.take (j + 1)) = setR (appL [] (ss.take j)) xk xv) := HAP1
          have HST2 := Lib.hid (HN2.out (by first | rfl | trivial))
          go_wp2_with fail
          generalize wr.alloc (.cells #[.slice A1 xk.length a1, .slice B1 xv.length b1, .bool false] 37) = W1 at *
          have c0 := T1.out.old.cell
          have HSZ : Hid (w.heap.size ≤ W1.drew.heap.size) := Lib.hid (Nat.le_trans S2.out.2.1.size O1.out.size)
          have TD : Hid (TTabN W1.drew w.heap.size p b j (appL [] (ss.take j))) := Lib.hid (T1.out.keep (below_drewN (Below.refl _ _) 1))
          have LY := Lib.hid (layN_any w.heap.size b j (appL [] (ss.take j)) A1 B1 a1 b1 xk xv W1.drew TD.out.map HSZ.out (S1.out.drewN 1) (S3.out.drewN 1) (by have := HLN.out; omega))
          go_region_held3 (fun w' => w'.cell? ⟨p, 0, none⟩ = some (.map (some b)) ∧ w'.cell? ⟨wr.heap.size, 0, none⟩ = some (.slice A1 xk.length a1) ∧ w'.cell? ⟨wr.heap.size, 1, none⟩ = some (.slice B1 xv.length b1)) (first | go_keep | exact ⟨f0, f1, f2⟩)
            (first | (go_at_call 54; refine LY.out.mono ?_; rintro e w3 ⟨rfl, t3, k3⟩; have T3 := Lib.hid (TD.out.turn k3 t3); have KD : Only W1 w3 (fun i => i = b) := (Only.of_below (below_drewN (Below.refl W1.heap.size W1) 1) (fun i => i = b)).then_ k3 (fun i h => .inl h); have O3 := Lib.hid (O1.out.then_ KD (fun i h => .inl h)); have hx3 := KD.blk HX2.out (by have := HBB.out; omega); have f0 := T3.out.old.cell; have f1 := (blk_cell hx3 0).trans (b := some (Value.slice A1 xk.length a1)) rfl; have f2 := (blk_cell hx3 1).trans (b := some (Value.slice B1 xv.length b1)) rfl; clear t3 k3 KD hx3))
          go_wp2_with fail
          go_roundg (m - (j + 1))
          case measure => omega
          case rel => exact ⟨j + 1, by omega, rfl, by go_num, HST2, by rw [Hid, HAP2.out]; exact T3.out, O3⟩
        · have HF : Hid (res = none) := Lib.hid (by rw [HFD.out, if_neg]; rintro ⟨_, h⟩; rw [HN1.out (by first | rfl | trivial)] at h; cases h)
          have B4 := Lib.hid (below_only S2.out.2.1 O1.out (fun i hi => by rw [hi]; exact HP.out.2))
          go_wp2_with fail
          exact bodyPost_ret (v := .tuple #[.pointer none, .int .i64 114]) (by simp [results, Try.results38, go_sem]) rfl (.inr ⟨HF.out, rfl, B4.out⟩)
      · obtain rfl : j = m := by omega
        have j1 : ¬ (j : Int) < (j : Int) := by omega
        have htk : ss.take j = ss := List.take_of_length_le (by rw [HM.out]; omega)
        rw [htk] at T HST
        have HF : Hid (res = some (appL [] ss)) := Lib.hid (by rw [HFD.out, if_pos ⟨by first | rfl | trivial, HST.out⟩, HAP.out (by first | rfl | trivial) HST.out])
        have B4 := Lib.hid (below_only S2.out.2.1 HO.out (fun i hi => by rw [hi]; exact HP.out.2))
        clear htk
        go_wp2_with fail
        exact bodyPost_ret (v := .tuple #[.pointer (some ⟨p, 0, none⟩), .int .i64 0]) (by simp [results, Try.results38, go_sem]) rfl (.inl ⟨_, p, b, j, HF.out, rfl, T.out, HLN.out, B4.out⟩)
  · have he : er = 114 := by
      rcases HER.out with h | h
      · exact absurd h h0
      · injection h
    subst he
    have HF : Hid (res = none) := Lib.hid (by rw [HFD.out, if_neg]; rintro ⟨h, _⟩; exact h0 h)
    have B4 := Lib.hid hb1
    clear ho hb1
    go_wp2_with fail
    exact bodyPost_ret (v := .tuple #[.pointer none, .int .i64 114]) (by simp [results, Try.results38, go_sem]) rfl (.inr ⟨HF.out, rfl, B4.out⟩)
end Go.Proofs.Ytnhfeoniiadjfaa.Lst
/- A table's bytes, plain: they are read back, and tell the rows. -/
namespace Go.Proofs.Ytnhfeoniiadjfaa.Lst
open Go.RowKit Go.Proofs.Ytnhfeoniiadjfaa.K Go.Proofs.Ytnhfeoniiadjfaa.Help Go.Proofs.Ytnhfeoniiadjfaa.Pfx Go.Proofs.Ytnhfeoniiadjfaa.Peer
set_option linter.unusedVariables false
theorem setOf_getD (l : List RowD) (k : Nat) (hk : k < l.length) : (l.map setOf).getD k zeroSet = setOf (l.getD k zR) := by simp [hk]
theorem ok_rows {l : List RowD} (hs : Srt l) (hm : RMay l) : okS (l.map setOf) (l.map setOf).length = true := by
  unfold okS
  rw [decide_eq_true_eq]
  intro k hk
  rw [List.length_map] at hk
  have e : l.getD k zR = l[k] := by simp [hk]
  unfold okAtS
  rw [setOf_getD l k hk, Bool.and_eq_true, Bool.or_eq_true, decide_eq_true_eq, decide_eq_true_eq]
  refine ⟨hm _ (by rw [e]; exact List.getElem_mem _), ?_⟩
  rcases Nat.eq_zero_or_pos k with h0 | h0
  · exact .inl h0
  · refine .inr ?_
    rw [setOf_getD l (k - 1) (by omega)]
    have h1 := List.pairwise_iff_getElem.1 hs (k - 1) k (by omega) hk (by omega)
    rw [e, show l.getD (k - 1) zR = l[k - 1] by simp [show k - 1 < l.length by omega]]
    exact h1
theorem put_rows {l : List RowD} (hs : Srt l) (hm : RMay l) : putSetsD (l.map setOf) = ((l.map setOf).flatMap rowB, 0) := by
  unfold putSetsD
  rw [if_pos (ok_rows hs hm)]
theorem get_rows {l : List RowD} (hs : Srt l) (hm : RMay l) : getSetsD (putSetsD (l.map setOf)).1 = (l.map setOf, 0) := by
  rw [put_rows hs hm]
  exact get_put _ (ok_rows hs hm)
theorem rowOf_setOf (l : List RowD) : (l.map setOf).map rowOf = l := by
  rw [List.map_map]
  conv => rhs; rw [← List.map_id l]
  rfl
theorem stays_setOf (l : List RowD) : (l.map setOf).all stays = true := by
  rw [List.all_eq_true]
  intro s hs
  obtain ⟨r, _, rfl⟩ := List.mem_map.1 hs
  rfl
theorem from_rows {l : List RowD} (hs : Srt l) (hm : RMay l) : fromD (putSetsD (l.map setOf)).1 = some l := by
  unfold fromD
  rw [get_rows hs hm, if_pos ⟨rfl, stays_setOf l⟩, rowOf_setOf]
theorem bytes_rows {l m : List RowD} (h1 : Srt l) (h2 : RMay l) (h3 : Srt m) (h4 : RMay m) : decide ((putSetsD (l.map setOf)).1 = (putSetsD (m.map setOf)).1) = decide (l = m) := by
  rw [decide_eq_decide]
  constructor
  · intro h
    have e1 := get_rows h1 h2
    rw [h, get_rows h3 h4] at e1
    injection e1 with e1
    rw [← rowOf_setOf l, ← e1, rowOf_setOf]
  · intro h
    rw [h]
theorem bytes_len {l : List RowD} (hs : Srt l) (hm : RMay l) : (putSetsD (l.map setOf)).1.length ≤ l.length * 600 := by
  rw [put_rows hs hm]
  have := flat_le (l := l.map setOf) (l.map setOf).length (Nat.le_refl _) (ok_rows hs hm)
  rw [List.take_of_length_le (Nat.le_refl _), List.length_map] at this
  exact this
end Go.Proofs.Ytnhfeoniiadjfaa.Lst
/- The walk of TableBack. -/
namespace Go.Proofs.Ytnhfeoniiadjfaa.tableBack
open Go.RowKit Go.Proofs.Ytnhfeoniiadjfaa.K Go.Proofs.Ytnhfeoniiadjfaa.Help Go.Proofs.Ytnhfeoniiadjfaa.Lst Go.Proofs.Ytnhfeoniiadjfaa.Peer
set_option linter.unusedVariables false
theorem rows_all (p b n : Nat) (q : List RowD) (w : World) (h : TTab w p b n q) (hn : n ≤ 100000) : Calls Try.prog 23 #[.pointer (some ⟨p, 0, none⟩), .int .i64 (q.length : Int)] w (RetL RowE w q) := by
  have := rows_tab p b n q (q.length : Int) w h hn (by omega) (by have := h.map.len_le; omega)
  rwa [List.take_of_length_le (by omega)] at this
set_option maxRecDepth 100000 in
set_option maxHeartbeats 8000000 in
theorem walk (A : Option Addr) (a : Nat) (l : List SetD) (A' : Option Addr) (a' : Nat) (o : List SetD) (A'' : Option Addr) (a'' : Nat) (b : List UInt8) (W : World) (hl : Lst SetE W (fun _ => False) A a l) (ho : Lst SetE W (fun _ => False) A' a' o) (hb : Bs W A'' a'' b) :
    Calls Try.prog 8 #[.slice A l.length a, .slice A' o.length a', .slice A'' b.length a''] W fun e W' => e = .returned (.bool true) ∧ Below W.heap.size W W' := by
  have P1 := Lib.hid (first13_any W)
  have S0 := hand (hand (hstart hb) ho) hl
  clear hl ho hb
  obtain ⟨nl, hnl⟩ : ∃ n, n = l.length := ⟨_, rfl⟩
  obtain ⟨no, hno⟩ : ∃ n, n = o.length := ⟨_, rfl⟩
  obtain ⟨nb, hnb⟩ : ∃ n, n = b.length := ⟨_, rfl⟩
  rw [← hnl, ← hno, ← hnb]
  have HNL := Lib.hid hnl
  have HNO := Lib.hid hno
  have HNB := Lib.hid hnb
  clear hnl hno hnb
  go_enter Try.func8, Try.ntmps8
  go_wp2_with fail
  (with_reducible refine P1.out.mono ?_)
  rintro e w1 ⟨rfl, hb1⟩
  have S1 := hand (hkeep hb1 S0) hb1
  clear hb1 S0 P1
  by_cases hbig : 65536 < nb
  · have hbi : (65536 : Int) < (nb : Int) := by omega
    go_wp2_with fail
    exact bodyPost_ret (v := .bool true) (by simp [results, Try.results8, go_sem]) rfl ⟨rfl, S1.out.1⟩
  have hbi : ¬ (65536 : Int) < (nb : Int) := by omega
  have HBB : Hid (b.length ≤ 65536) := Lib.hid (by rw [← HNB.out]; omega)
  clear hbig
  have F1 : Hid (Calls Try.prog 19 #[.slice A nl a, .int .i64 2000] w1 (RetFt w1 (fitD l 2000))) := by
    have := fit_any A a l 2000 w1 S1.out.2.1 (by decide)
    rw [← HNL.out] at this
    exact Lib.hid this
  have F2 : Hid (∀ w, Lst SetE w (fun _ => False) A' a' o → Calls Try.prog 19 #[.slice A' no a', .int .i64 2000] w (RetFt w (fitD o 2000))) := Lib.hid (fun w h => by
    have := fit_any A' a' o 2000 w h (by decide)
    rw [← HNO.out] at this
    exact this)
  have HLA := Lib.hid (fitD_all l 2000)
  have HLL := Lib.hid (fitD_len l 2000)
  generalize fitD l 2000 = L at *
  have HOA := Lib.hid (fitD_all o 2000)
  have HOL := Lib.hid (fitD_len o 2000)
  generalize fitD o 2000 = O at *
  clear HNL HNO
  go_wp2_with fail
  (with_reducible refine F1.out.mono ?_)
  rintro e w2 ⟨A2, a2, rfl, o2, hb2⟩
  obtain ⟨A2', a2', e2, l2⟩ := o2.lst (fun _ _ h => h)
  cases e2
  have S2 := hkeep hb2 S1
  have B1 := Lib.hid (built_any A2 a2 L w2 l2 (by have := HLL.out; omega) HLA.out)
  obtain ⟨T, hT⟩ : ∃ T, T = appL [] L := ⟨_, rfl⟩
  have HTS : Hid (Srt T) := Lib.hid (by rw [hT]; exact appL_srt L)
  have HTM : Hid (RMay T) := Lib.hid (by rw [hT]; exact rmay_appL rmay_nil HLA.out)
  have HTL : Hid (T.length ≤ 2000) := Lib.hid (by rw [hT]; have := appL_len L []; have := HLL.out; simp at *; omega)
  rw [← hT] at B1
  clear hT o2 l2 hb2 S1 F1
  go_wp2_with fail
  (with_reducible refine B1.out.mono ?_)
  rintro e w3 ⟨pt, bt, rfl, t3, -, -, hb3⟩
  have S3 := hand (hkeep hb3 S2) t3
  clear t3 hb3 S2 B1
  go_wp2_with fail
  (with_reducible refine (F2.out w3 S3.out.2.2.2.1).mono ?_)
  rintro e w4 ⟨A4, a4, rfl, o4, hb4⟩
  obtain ⟨A4', a4', e4, l4⟩ := o4.lst (fun _ _ h => h)
  cases e4
  have S4 := hkeep hb4 S3
  have B2 := Lib.hid (built_any A4 a4 O w4 l4 (by have := HOL.out; omega) HOA.out)
  obtain ⟨U, hU⟩ : ∃ U, U = appL [] O := ⟨_, rfl⟩
  have HUS : Hid (Srt U) := Lib.hid (by rw [hU]; exact appL_srt O)
  have HUM : Hid (RMay U) := Lib.hid (by rw [hU]; exact rmay_appL rmay_nil HOA.out)
  have HUL : Hid (U.length ≤ 2000) := Lib.hid (by rw [hU]; have := appL_len O []; have := HOL.out; simp at *; omega)
  rw [← hU] at B2
  clear hU o4 l4 hb4 S3 F2
  go_wp2_with fail
  (with_reducible refine B2.out.mono ?_)
  rintro e w5 ⟨pu, bu, rfl, t5, -, -, hb5⟩
  have S5 := hand (hkeep hb5 S4) t5
  clear t5 hb5 S4 B2
  have Q1 := Lib.hid (tbytes_any pt bt _ T w5 S5.out.2.1 (by have := HLL.out; omega))
  have HOL2 : Hid (O.length ≤ 100000) := Lib.hid (by have := HOL.out; omega)
  have Q2 := Lib.hid (fun w h => tbytes_any pu bu _ U w h HOL2.out)
  have HBL : Hid ((putSetsD (T.map setOf)).1.length ≤ 1200000) := Lib.hid (by have := bytes_len HTS.out HTM.out; have := HTL.out; omega)
  have HGR := Lib.hid (get_rows HTS.out HTM.out)
  have HFR := Lib.hid (from_rows HTS.out HTM.out)
  have HPR : Hid (putSetsD (T.map setOf) = ((putSetsD (T.map setOf)).1, 0)) := Lib.hid (by rw [put_rows HTS.out HTM.out])
  have HBR := Lib.hid (bytes_rows HTS.out HTM.out HUS.out HUM.out)
  generalize hbT : (putSetsD (T.map setOf)).1 = bT at *
  have HbT := Lib.hid hbT
  clear hbT
  generalize (putSetsD (U.map setOf)).1 = bU at *
  go_wp2_with fail
  (with_reducible refine Q1.out.mono ?_)
  rintro e w6 ⟨A6, c6, rfl, s6, hb6⟩
  have S6 := hand (hkeep hb6 S5) s6
  clear s6 hb6 S5 Q1
  go_wp2_with fail
  (with_reducible refine (Q2.out w6 S6.out.2.1).mono ?_)
  rintro e w7 ⟨A7, c7, rfl, s7, hb7⟩
  have S7 := hand (hkeep hb7 S6) s7
  clear s7 hb7 S6 Q2
  have FB := Lib.hid (fromBytes2_any A6 c6 bT w7 S7.out.2.1 (by have := HBL.out; omega) (by rw [HGR.out, List.length_map]; have := HTL.out; omega))
  rw [HFR.out] at FB
  go_wp2_with fail
  (with_reducible refine FB.out.mono ?_)
  rintro e w8 (⟨q8, pw, bw, nw, eq8, rfl, t8, hn8, hb8⟩ | ⟨hf, -, -⟩)
  rotate_left
  · cases hf
  cases eq8
  have S8 := hand (hkeep hb8 S7) t8.old
  have HNW := Lib.hid hn8
  clear t8 hn8 hb8 S7 FB
  go_wp2_with fail
  (with_reducible refine (num13_any _ _).mono ?_)
  rintro e wq ⟨rfl, rfl⟩
  have N1 := Lib.hid (len_any pt bt _ T w8 S8.out.2.2.2.2.1)
  have R1 := Lib.hid (rows_all pt bt _ T w8 S8.out.2.2.2.2.1 (by have := HLL.out; omega))
  go_wp2_with fail
  (with_reducible refine N1.out.mono ?_)
  rintro e wq ⟨rfl, rfl⟩
  go_wp2_with fail
  (with_reducible refine R1.out.mono ?_)
  rintro e w9 ⟨A9, a9, rfl, l9, hb9⟩
  have S9 := hand (hkeep hb9 S8) l9
  clear l9 hb9 S8 N1 R1
  have N1 := Lib.hid (len_any pw bw _ T w9 S9.out.2.1)
  have R1 := Lib.hid (rows_all pw bw _ T w9 S9.out.2.1 HNW.out)
  go_wp2_with fail
  (with_reducible refine N1.out.mono ?_)
  rintro e wq ⟨rfl, rfl⟩
  go_wp2_with fail
  (with_reducible refine R1.out.mono ?_)
  rintro e w10 ⟨A10, a10, rfl, l10, hb10⟩
  have S10 := hand (hkeep hb10 S9) l10
  clear l10 hb10 S9 N1 R1
  have N1 := Lib.hid (len_any pu bu _ U w10 S10.out.2.2.2.2.2.1)
  have R1 := Lib.hid (rows_all pu bu _ U w10 S10.out.2.2.2.2.2.1 HOL2.out)
  go_wp2_with fail
  (with_reducible refine N1.out.mono ?_)
  rintro e wq ⟨rfl, rfl⟩
  go_wp2_with fail
  (with_reducible refine R1.out.mono ?_)
  rintro e w11 ⟨A11, a11, rfl, l11, hb11⟩
  have S11 := hand (hkeep hb11 S10) l11
  clear l11 hb11 S10 N1 R1
  have SR := Lib.hid (sameRows_any A9 A10 a9 a10 T T w11 S11.out.2.2.1 S11.out.2.1)
  rw [show decide (T = T) = true by simp] at SR
  go_wp2_with fail
  (with_reducible refine SR.out.mono ?_)
  rintro e w12 ⟨rfl, hb12⟩
  have S12 := hkeep hb12 S11
  clear hb12 S11 SR
  have SB := Lib.hid (Help.sameBytes A6 A7 c6 c7 bT bU w12 S12.out.2.2.2.2.2.1 S12.out.2.2.2.2.1)
  rw [HBR.out] at SB
  have SR := Lib.hid (fun w h1 h2 => sameRows_any A9 A11 a9 a11 T U w h1 h2)
  generalize decide (T = U) = d at *
  have hne : (d != d) = false := by simp
  go_wp2_with fail
  (with_reducible refine SB.out.mono ?_)
  rintro e w13 ⟨q13, rfl, rfl⟩
  have S13 := hkeep (below_drewN (Below.refl w12.heap.size w12) q13) S12
  generalize w12.drewN q13 = w13 at *
  clear S12 SB
  have SR1 := Lib.hid (SR.out w13 S13.out.2.2.1 S13.out.1)
  go_wp2_with fail
  (with_reducible refine SR1.out.mono ?_)
  rintro e w14 ⟨rfl, hb14⟩
  have S14 := hkeep hb14 S13
  clear hb14 S13 SR1 SR
  have GS := Lib.hid (getSets_any A6 c6 bT w14 S14.out.2.2.2.2.2.1 (by have := HBL.out; omega))
  rw [HGR.out] at GS
  go_wp2_with fail
  (with_reducible refine GS.out.mono ?_)
  rintro e w15 ⟨A15, c15, rfl, o15, hb15⟩
  dsimp only at o15 ⊢
  obtain ⟨A15', c15', e15, l15⟩ := o15.lst (N := fun i => i < w14.heap.size) (fun i hi h => by have := o15.base_le hi; omega)
  cases e15
  have S15 := hand (hkeep hb15 S14) l15.free
  have PS := Lib.hid (putSets_any A15 c15 (T.map setOf) w15 S15.out.1 (by rw [List.length_map]; have := HTL.out; omega))
  rw [HPR.out] at PS
  rw [show (T.map setOf).length = T.length by simp] at PS ⊢
  have hne2 : ((T.length : Int) != (T.length : Int)) = false := by simp
  clear o15 l15 hb15 S14 GS
  go_wp2_with fail
  (with_reducible refine (num13_any _ _).mono ?_)
  rintro e wq ⟨rfl, rfl⟩
  go_wp2_with fail
  (with_reducible refine PS.out.mono ?_)
  rintro e w16 ⟨A16, c16, rfl, s16, hb16, -⟩
  dsimp only at s16 ⊢
  have S16 := hand (hkeep hb16 S15) s16
  have SB := Lib.hid (Help.sameBytes A16 A6 c16 c6 bT bT w16 S16.out.1 S16.out.2.2.2.2.2.2.2.1)
  rw [show decide (bT = bT) = true by simp] at SB
  clear s16 hb16 S15 PS
  go_wp2_with fail
  (with_reducible refine SB.out.mono ?_)
  rintro e w17 ⟨q17, rfl, rfl⟩
  have S17 := hkeep (below_drewN (Below.refl w16.heap.size w16) q17) S16
  generalize w16.drewN q17 = w17 at *
  clear S16 SB
  go_wp2_with fail
  (with_reducible refine (num13_any _ _).mono ?_)
  rintro e wq ⟨rfl, rfl⟩
  have GS := Lib.hid (getSets_any A'' a'' b w17 S17.out.2.2.2.2.2.2.2.2.2.2.2.2.2.1 (by have := HBB.out; omega))
  rw [← HNB.out] at GS
  have HER := Lib.hid (getSetsD_err b)
  have HPG := Lib.hid (fun r h => (put_get (L := b) (r := r) h).2)
  have HRL := Lib.hid (getSetsD_len b)
  generalize getSetsD b = r at *
  obtain ⟨r, er⟩ := r
  dsimp only at HER HPG HRL
  go_wp2_with fail
  (with_reducible refine GS.out.mono ?_)
  rintro e w18 ⟨A18, c18, rfl, o18, hb18⟩
  dsimp only at o18 ⊢
  obtain ⟨A18', c18', e18, l18⟩ := o18.lst (N := fun i => i < w17.heap.size) (fun i hi h => by have := o18.base_le hi; omega)
  cases e18
  have S18 := hand (hkeep hb18 S17) l18.free
  clear o18 l18 hb18 S17 GS
  rcases HER.out with h0 | h0
  · subst h0
    have PS := Lib.hid (putSets_any A18 c18 r w18 S18.out.1 (by have := HRL.out; have := HBB.out; omega))
    rw [HPG.out r rfl] at PS
    generalize r.length = rl at *
    go_wp2_with fail
    (with_reducible refine (num13_any _ _).mono ?_)
    rintro e wq ⟨rfl, rfl⟩
    go_wp2_with fail
    (with_reducible refine PS.out.mono ?_)
    rintro e w19 ⟨A19, c19, rfl, s19, hb19, -⟩
    dsimp only at s19 ⊢
    have S19 := hand (hkeep hb19 S18) s19
    have SB := Lib.hid (Help.sameBytes A19 A'' c19 a'' b b w19 S19.out.1 S19.out.2.2.2.2.2.2.2.2.2.2.2.2.2.2.2.1)
    rw [show decide (b = b) = true by simp] at SB
    rw [← HNB.out] at SB ⊢
    clear s19 hb19 S18 PS
    go_wp2_with fail
    (with_reducible refine SB.out.mono ?_)
    rintro e w20 ⟨q20, rfl, rfl⟩
    have BF := Lib.hid (below_drewN S19.out.2.2.2.2.2.2.2.2.2.2.2.2.1 q20)
    generalize w19.drewN q20 = w20 at *
    clear S19 SB
    go_wp2_with fail
    (with_reducible refine (num13_any _ _).mono ?_)
    rintro e wq ⟨rfl, rfl⟩
    go_wp2_with fail
    exact bodyPost_ret (v := .bool true) (by simp [results, Try.results8, go_sem]) rfl ⟨rfl, BF.out⟩
  · injection h0 with h1 h2
    subst h1
    subst h2
    go_wp2_with fail
    (with_reducible refine (num13_any _ _).mono ?_)
    rintro e wq ⟨rfl, rfl⟩
    go_wp2_with fail
    exact bodyPost_ret (v := .bool true) (by simp [results, Try.results8, go_sem]) rfl ⟨rfl, S18.out.2.2.2.2.2.2.2.2.2.2.2.1⟩
end Go.Proofs.Ytnhfeoniiadjfaa.tableBack
