/- Contracts of the functions that the laws of this seat reach: part 3 of 8. -/
import Derived.Test.YtnhfeoniiadjfaaC2
import Derived.Deep.RegionLaw
import Derived.Sort.Walk0
import Derived.Laws.Cover1
import Derived.IntWalk
import Derived.Lib.SmallJoins
import Derived.Lib.SlBytesConst
/- All; what it gives goes to any function. -/
namespace Go.Proofs.Ytnhfeoniiadjfaa.Lst
open Go.RowKit Go.Maps Go.Sort Go.Shelf Go.Proofs.Ytnhfeoniiadjfaa.K Go.Proofs.Ytnhfeoniiadjfaa.Help Go.Proofs.Ytnhfeoniiadjfaa.Pfx Go.Proofs.Ytnhfeoniiadjfaa.Peer
set_option linter.unusedVariables false

/-- an iterator: the box of the map that it goes through -/
structure TIter (w : World) (g b : Nat) (l : List RowD) : Prop where
  blk : w.heap[g]? = some (.cells #[.map (some b)] 57 (0, 0))
  map : TMap w b l.length l
section
variable {w w' : World} {g b : Nat} {l : List RowD}
theorem TIter.cell (h : TIter w g b l) : w.cell? ⟨g, 0, none⟩ = some (.map (some b)) := (blk_cell h.blk 0).trans rfl
theorem TIter.lt (h : TIter w g b l) : g < w.heap.size := blk_lt h.blk
theorem TIter.keep (h : TIter w g b l) (hb : Below w.heap.size w w') : TIter w' g b l := ⟨(hb.block _ h.lt).trans h.blk, h.map.keep hb⟩
end
def allFn (g : Nat) : Value := .func (.func 62) #[] #[.pointer (some ⟨g, 0, none⟩)]
def RetAll (w : World) (l : List RowD) (e : Ending) (w' : World) : Prop := ∃ g b, e = .returned (allFn g) ∧ w.heap.size ≤ g ∧ w.heap.size ≤ b ∧ TIter w' g b l ∧ Below w.heap.size w w'
set_option maxRecDepth 100000 in
theorem all_any (p b n : Nat) (l : List RowD) (w : World) (h : TTab w p b n l) (hn : n ≤ 100000) : Calls Try.prog 32 #[.pointer (some ⟨p, 0, none⟩)] w (RetAll w l) := by
  have c0 := h.cell
  have C1 := Lib.hid (copied_any b n l w h.map hn)
  clear h hn
  unfold RetAll allFn
  go_enter Try.func32, Try.ntmps32
  go_wp2_with fail
  (with_reducible refine C1.out.mono ?_)
  rintro e w1 ⟨b1, rfl, h1, m1, hb1⟩
  have hb2 := below_alloc (Below.refl w1.heap.size w1) (.cells #[.map (some b1)] 57)
  have X2 := Lib.hid (blk_new w1 (.cells #[.map (some b1)] 57))
  have M2 := Lib.hid (m1.keep hb2)
  have W2 := Lib.hid (below_step hb1 hb2)
  have L1 := Lib.hid h1
  have SZ := Lib.hid hb1.size
  clear h1 m1 hb1 hb2
  go_wp2_with fail
  go_ret
  exact ⟨w1.heap.size, b1, rfl, SZ.out, L1.out, ⟨X2.out, M2.out⟩, W2.out⟩
theorem field_held (B : Option Addr) (n c : Nat) (w : World) : (Instr.field 102 (.agg #[.slice B n c]) 0).run Try.prog w = .ok (.slice B n c) w := by kernel_rfl
/-- blocks from lo to hi stand -/
def Stands (w w' : World) (lo hi : Nat) : Prop := w.heap.size ≤ w'.heap.size ∧ ∀ i, lo ≤ i → i < hi → w'.heap[i]? = w.heap[i]?
set_option maxRecDepth 100000 in
set_option maxHeartbeats 2000000 in
/-- All's rows, each handed to f -/
theorem all1_gen (f : FuncId) (caps : Array Value) (eg : ∀ args w, (callFunc f args).run Try.prog w = .ok (.enter f args) w) (g b : Nat) (l : List RowD) (w : World) (T : Nat → Prop) (hT : ∀ i, T i → i < w.heap.size)
    (I : Nat → Nat → World → Prop) (St : World → Prop) (hit : TIter w g b l) (h0 : ∀ W1, Below w.heap.size w W1 → I W1.heap.size 0 W1) (hI : ∀ M k W W', I M k W → Below W.heap.size W W' → I M k W') (hM : ∀ M k W, I M k W → TIter W g b l) (hn : l.length ≤ 1000000)
    (hy : ∀ (M k N : Nat) (W : World) (A B : Option Addr) (a d : Nat), k < l.length → I M k W → w.heap.size ≤ M → M ≤ N → N ≤ W.heap.size → Bs W A a (l.getD k zR).1 → Bs W B d (l.getD k zR).2 → (∀ ad, A = some ad → N ≤ ad.block) → (∀ ad, B = some ad → N ≤ ad.block) →
      Calls Try.prog f (#[.slice A (l.getD k zR).1.length a, .slice B (l.getD k zR).2.length d] ++ caps) W (fun e W' => Only W W' (fun i => T i ∨ M ≤ i) ∧ ((e = .returned (.bool true) ∧ I M (k + 1) W') ∨ (e = .returned (.bool false) ∧ St W')))) :
    Calls Try.prog 62 #[.func (.func f) #[] caps, .pointer (some ⟨g, 0, none⟩)] w (fun e w' => e = .returned (.tuple #[]) ∧ ((∃ M, I M l.length w') ∨ St w')) := by
  have H0 := Lib.hid h0
  have c0 := hit.cell
  have KY := Lib.hid (keysT_any b l.length l w hit.map hn)
  have HI := Lib.hid hI
  have HM := Lib.hid hM
  have HY := Lib.hid hy
  have HT := Lib.hid hT
  have HSR := Lib.hid hit.map.srt
  have H47 : Hid (∀ r, r ∈ l → r.1.length ≤ 140737488355328) := Lib.hid (by obtain ⟨D, _, h⟩ := hit.map; exact h.len)
  have HNN := Lib.hid hn
  clear h0 hI hM hy hT hn hit
  generalize hm : l.length = m at *
  have HMM := Lib.hid hm
  have HLM : Hid ((l.map Prod.fst).length = m) := Lib.hid (by rw [List.length_map]; exact hm)
  clear hm
  generalize hks : l.map Prod.fst = ks at *
  have HKS := Lib.hid hks
  clear hks
  rw [HLM.out] at KY
  go_enter Try.func62, Try.ntmps62
  go_wp2_with fail
  (with_reducible refine KY.out.mono ?_)
  rintro e w1 ⟨KA, kc, rfl, hkl, hb1, hnw⟩
  have HK : Hid (∀ j x, ks[j]? = some x → ∃ bk off, KA = some ⟨bk, off, none⟩ ∧ w.heap.size ≤ bk ∧ bk < w1.heap.size ∧ w1.cell? ⟨bk, off + j, none⟩ = some (.string ⟨x.toArray⟩)) := Lib.hid (fun j x hx => by
    obtain ⟨bk, off, raw, e, hlt, -, hc, hr⟩ := hkl.at_ j x hx
    refine ⟨bk, off, e, hnw _ e, hlt, ?_⟩
    have h0 := hc 0 (by decide)
    rw [show StrE.sz = 1 from rfl, Nat.mul_one, Nat.add_zero] at h0
    cases hr
    exact h0)
  have hkc := hkl.le
  have hkc2 := hkl.max
  rw [HLM.out] at hkc
  have I1 := Lib.hid (H0.out w1 hb1)
  have SZ1 := Lib.hid hb1.size
  clear hkl hb1 hnw KY c0
  go_wp2_with fail
  go_loopg [8] m (fun gk i wr => ∃ k : Nat, k ≤ m ∧ gk = m - k ∧ i = .int .i64 (k : Int) ∧ Hid (I w1.heap.size k wr) ∧ Hid (Stands w1 wr w.heap.size w1.heap.size))
  case atStart => exact ⟨0, by omega, rfl, rfl, I1, Nat.le_refl _, fun _ _ _ => rfl⟩
  case round =>
    clear I1
    obtain ⟨k, hk, rfl, rfl, HIK, HST⟩ := hrel
    by_cases hlt : k < m
    · have i1 : (k : Int) < (m : Int) := by omega
      have i0 : (0 : Int) ≤ (k : Int) := by omega
      have hkl : k < l.length := by rw [HMM.out]; exact hlt
      have hmem : l.getD k zR ∈ l := by
        have e : l.getD k zR = l[k] := by simp [hkl]
        rw [e]; exact List.getElem_mem hkl
      have hgk : ks[k]? = some (l.getD k zR).1 := by rw [← HKS.out, List.getElem?_map]; simp [hkl]
      obtain ⟨bk, off, rfl, b1, b2, y1⟩ := HK.out k _ hgk
      have hval : valOf l (l.getD k zR).1 = (l.getD k zR).2 := valOf_mem HSR.out.nodup hmem
      have h47 := H47.out _ hmem
      have Y := HY.out w1.heap.size k wr.heap.size
      obtain ⟨⟨x, v⟩, hx⟩ : ∃ y, l.getD k zR = y := ⟨_, rfl⟩
      rw [hx] at y1 hval h47 Y
      dsimp only at y1 hval h47 Y
      have y0 : wr.cell? ⟨bk, off + k, none⟩ = some (.string ⟨x.toArray⟩) := (cell_blk (ad := ⟨bk, _, none⟩) (HST.out.2 bk b1 b2)).trans y1
      have c1 := (HM.out _ k wr HIK.out).cell
      obtain ⟨cap, w2, hcv, s2, hb2⟩ := bytes_of wr x h47
      have i2 := HI.out _ k wr w2 HIK.out hb2
      have c2 := (HM.out _ k w2 i2).cell
      obtain ⟨B, d, hlook, sv⟩ := tlookv_run (HM.out _ k w2 i2).map x h47
      rw [hval] at hlook sv
      have hfld := field_held B v.length d w2
      have CL := Lib.hid (clone_any B d v w2 sv)
      have I2 := Lib.hid i2
      have S2 := Lib.hid s2
      have SZ2 := Lib.hid hb2.size
      have B2 := Lib.hid hb2
      have HYK := Lib.hid (fun W A B a d => Y W A B a d hlt)
      have HSW : Hid (w.heap.size ≤ wr.heap.size) := Lib.hid (Nat.le_trans SZ1.out HST.out.1)
      clear hkl hmem hgk b1 b2 y1 hval h47 hx i2 s2 hb2 sv Y
      go_wp2_with fail
      (with_reducible refine CL.out.mono ?_)
      rintro e w3 ⟨B3, d3, rfl, s3, hb3, n3⟩
      have Y3 := Lib.hid (HYK.out w3 _ B3 cap d3 (HI.out _ k w2 w3 I2.out hb3) SZ1.out HST.out.1 (Nat.le_trans SZ2.out hb3.size) (S2.out.below hb3) s3 (fun ad e => by injection e with e; rw [← e]; exact Nat.le_refl _) (fun ad e => Nat.le_trans SZ2.out (n3 ad e)))
      have B3 := Lib.hid (below_step B2.out hb3)
      clear s3 hb3 n3
      go_wp2_with fail
      (with_reducible refine Y3.out.mono ?_)
      rintro e w4 ⟨k4, h4⟩
      rcases h4 with ⟨rfl, i4⟩ | ⟨rfl, st⟩
      · have I4 := Lib.hid i4
        have ST4 : Hid (Stands w1 w4 w.heap.size w1.heap.size) := Lib.hid ⟨Nat.le_trans HST.out.1 (Nat.le_trans B3.out.size k4.size), fun i hlo hhi => by
          have hwr : i < wr.heap.size := Nat.lt_of_lt_of_le hhi HST.out.1
          have h3 := k4.block i (Nat.lt_of_lt_of_le hwr B3.out.size) (fun h => h.elim (fun h => by have := HT.out i h; omega) (fun h => by omega))
          exact h3.trans ((B3.out.block i hwr).trans (HST.out.2 i hlo hhi))⟩
        clear k4 i4
        go_wp2_with fail
        go_roundg (m - (k + 1))
        case measure => omega
        case rel => exact ⟨k + 1, by omega, rfl, by go_num, I4, ST4⟩
      · have HST5 := Lib.hid st
        clear k4 st
        go_wp2_with fail
        exact bodyPost_ret (v := .tuple #[]) (by simp [results, Try.results62, go_sem]) rfl ⟨rfl, .inr HST5.out⟩
    · obtain rfl : k = m := by omega
      have i1 : ¬ (k : Int) < (k : Int) := by omega
      go_wp2_with fail
      go_end0
      exact ⟨rfl, .inl ⟨_, HIK.out⟩⟩
end Go.Proofs.Ytnhfeoniiadjfaa.Lst
/- append of one struct to an own list at a step of a region that draws. -/
namespace Go.Proofs.Ytnhfeoniiadjfaa.Lst
open Go.RowKit Go.Proofs.Ytnhfeoniiadjfaa.K Go.Proofs.Ytnhfeoniiadjfaa.Help Go.Proofs.Ytnhfeoniiadjfaa.Pfx Go.Proofs.Ytnhfeoniiadjfaa.Peer
set_option linter.unusedVariables false
section
variable {α : Type} {E : Elem α} {P : Program} {ops : Array Oper} {o : Oper} {a : Act} {Q : Exit → Act → World → Prop}
/-- append(v, x) at a step: x laid at block g -/
theorem step_pushE {B : Nat} {W : World} {N : Nat → Prop} {K : Act → World → Prop} {F : Prop} (t ts : TypeId) (z : Value) (bytes : Nat) (hgd : o.guard = none) (s xo : Operand)
    (ho : o.op = .call { callee := .builtin .append, args := #[s, xo], argTypes := #[ts, ts] })
    (ht : P.underlying ts = some (.slice t)) (hinfo : (P.info? t).map (fun i => (i.zero, i.size, i.bytes)) = some (some z, E.sz, bytes)) (hz : z.cells.size = E.sz) (hs0 : 0 < E.sz) (hb1 : 0 < bytes) (hb2 : bytes ≤ 128)
    (v : Value) (l : List α) (x : α) (raw : List Value) (g mc : Nat) (hs : a.eval s = v) (hx : a.eval xo = .slice (some ⟨g, 0, none⟩) 1 mc)
    (HO : OwnL E t W N B v l) (HX : W.heap[g]? = some (.cells raw.toArray t (0, 0))) (hr : E.R W (fun k => N k ∨ v.ownBlock = some k) raw x) (hBW : B ≤ W.heap.size) (hl : l.length ≤ 100000000000)
    (h : ∀ A' c' w1, OwnL E t w1 N B (.slice A' (l.length + 1) c') (l ++ [x]) → Only W w1 (fun k => v.ownBlock = some k) → (∀ k, (Value.slice A' (l.length + 1) c').ownBlock = some k → v.ownBlock = some k ∨ W.heap.size ≤ k) → K (a.put o.dst (.slice A' (l.length + 1) c')) w1)
    (hNn : ∀ k, N k → k < W.heap.size) :
    if Region.wanted o (yielded ops a.tmps) = true then Oper.wp P o a W K Q else F := by
  obtain ⟨raws, hrl, hown, hm, hR⟩ := HO
  obtain ⟨i0, hi, hzz⟩ := Option.map_eq_some_iff.1 hinfo
  simp only [Prod.mk.injEq] at hzz
  obtain ⟨hz0, hz1, hz2⟩ := hzz
  have hraw := E.len hr
  have hbb : (l.length + 1) * bytes ≤ 140737488355328 := Nat.le_trans (Nat.mul_le_mul (show l.length + 1 ≤ 1000000000000 by omega) hb2) (by decide)
  refine step_append_lies W hgd s xo ts ho B t i0 z E.sz bytes ht hi hz0 hz1 hz2 hz hs0 v l.length raws.flatten hs hown ⟨g, 0, none⟩ 1 mc raw hx (by rw [hraw]; omega)
    ?_ (E.one hr) (by decide) (by simp only [maxLen]; omega) hbb hBW _ rfl ?_
  · intro j u hu
    rw [addr_add_plain]
    exact (blk_cell HX j).trans (by simpa using hu)
  · intro g1 cap w1 hown1 hg hat hlt
    have k : Only W w1 (fun k => v.ownBlock = some k) := (Only.refl W (fun k => v.ownBlock = some k)).grown hg (fun k hk => .inl hk)
    have hat2 : ∀ k, (Value.slice (some ⟨g1, 0, none⟩) (l.length + 1) cap).ownBlock = some k → v.ownBlock = some k ∨ W.heap.size ≤ k := fun k hk => by
      have e : g1 = k := by simpa [Value.ownBlock] using hk
      subst e
      rcases hat with hat | hat
      · exact .inl hat
      · exact .inr (by omega)
    generalize hv1 : Value.slice (some ⟨g1, 0, none⟩) (l.length + 1) cap = v1 at *
    have hO : OwnL E t w1 N B v1 (l ++ [x]) := by
      refine ⟨raws ++ [raw], by simp [hrl], ?_, by simp; omega, fun i y r hy hw => ?_⟩
      · rw [List.flatten_append, List.flatten_cons, List.flatten_nil, List.append_nil]; simpa using hown1
      · have hT : E.R W (fun k => N k ∨ v.ownBlock = some k) r y := by
          by_cases hii : i < l.length
          · exact hR i y r (by rw [List.getElem?_append_left hii] at hy; exact hy) (by rw [List.getElem?_append_left (by omega)] at hw; exact hw)
          · have e1 : i = l.length := by
              have := (List.getElem?_eq_some_iff.1 hy).1
              simp at this
              omega
            subst e1
            rw [List.getElem?_append_right (by omega), Nat.sub_self] at hy
            rw [List.getElem?_append_right (by omega), hrl, Nat.sub_self] at hw
            simp only [List.getElem?_cons_zero, Option.some.injEq] at hy hw
            subst hy hw
            exact hr
        have hT2 : E.R W (fun k => (N k ∨ v.ownBlock = some k) ∨ v1.ownBlock = some k) r y := E.reno hT (fun k hk => hk.elim .inl (fun h => (hat2 k h).imp .inr id))
        exact E.reno (E.only hT2 k (fun i _ hi => .inl (.inr hi))) (fun k hk => .inl (hk.elim (fun h => .inl (.inl h)) .inr))
    subst hv1
    exact h _ cap w1 hO k hat2
end
end Go.Proofs.Ytnhfeoniiadjfaa.Lst
/- rows: what All gives, collected. -/
namespace Go.Proofs.Ytnhfeoniiadjfaa.Lst
open Go.RowKit Go.Maps Go.Sort Go.Shelf Go.Proofs.Ytnhfeoniiadjfaa.K Go.Proofs.Ytnhfeoniiadjfaa.Help Go.Proofs.Ytnhfeoniiadjfaa.Pfx Go.Proofs.Ytnhfeoniiadjfaa.Peer
set_option linter.unusedVariables false

theorem OwnL.rowOnly {w w' : World} {t : TypeId} {B g : Nat} {v : Value} {l : List RowD} (h : OwnL RowE t w (fun _ => False) B v l) (k : Only w w' (fun i => i = g)) (hne : ∀ i, v.ownBlock = some i → ¬ i = g) (hno : NoU8 w g) : OwnL RowE t w' (fun _ => False) B v l := by
  obtain ⟨raws, hl, ho, hm, hR⟩ := h
  refine ⟨raws, hl, row_keep ho k hne, hm, fun i x raw hx hw => ?_⟩
  obtain ⟨A1, a1, B1, b1, e1, s1, s2⟩ := hR i x raw hx hw
  exact ⟨A1, a1, B1, b1, e1, ⟨bs_only s1.1 k (fun i hi _ => by rw [hi]; exact hno), s1.2⟩, ⟨bs_only s2.1 k (fun i hi _ => by rw [hi]; exact hno), s2.2⟩⟩
/-- the boxes of rows: the list under way, the number -/
structure RB1 (w : World) (base pl pn : Nat) (n : Int) (v : Value) (u : List RowD) : Prop where
  l : w.heap[pl]? = some (.cells #[v] 49 (0, 0))
  n : w.heap[pn]? = some (.cells #[.int .i64 n] 3 (0, 0))
  o : OwnL RowE 54 w (fun _ => False) base v u
section
variable {w w' : World} {base pl pn : Nat} {n : Int} {v : Value} {u : List RowD}
theorem RB1.keep (h : RB1 w base pl pn n v u) (hb : Below w.heap.size w w') : RB1 w' base pl pn n v u := ⟨(hb.block _ (blk_lt h.l)).trans h.l, (hb.block _ (blk_lt h.n)).trans h.n, h.o.below hb⟩
theorem RB1.ne (h : RB1 w base pl pn n v u) : pl ≠ pn := fun e => blk_ne (e ▸ h.l) h.n (by decide) rfl
theorem RB1.cl (h : RB1 w base pl pn n v u) : w.cell? ⟨pl, 0, none⟩ = some v := (blk_cell h.l 0).trans rfl
theorem RB1.cn (h : RB1 w base pl pn n v u) : w.cell? ⟨pn, 0, none⟩ = some (.int .i64 n) := (blk_cell h.n 0).trans rfl
theorem RB1.far (h : RB1 w base pl pn n v u) : ∀ i, v.ownBlock = some i → ¬ i = pl ∧ ¬ i = pn := fun i hi => by
  obtain ⟨cs, hc⟩ := h.o.blk hi
  exact ⟨fun e => blk_ne (e ▸ hc) h.l (by decide) rfl, fun e => blk_ne (e ▸ hc) h.n (by decide) rfl⟩
end
def RetR1 (W : World) (base pl pn : Nat) (n : Int) (v : Value) (u : List RowD) (e : Ending) (W' : World) : Prop := ∃ v', e = .returned (.bool (decide ((u.length : Int) ≤ n))) ∧ RB1 W' base pl pn n v' u ∧ Only W W' (fun i => i = pl ∨ v.ownBlock = some i) ∧ (∀ i, v'.ownBlock = some i → v.ownBlock = some i ∨ W.heap.size ≤ i)
set_option maxRecDepth 100000 in
set_option maxHeartbeats 2000000 in
theorem rows1_any (base pl pn : Nat) (n : Int) (v : Value) (u : List RowD) (A B : Option Addr) (a d : Nat) (k x : List UInt8) (W : World) (h : RB1 W base pl pn n v u) (hk : Bs W A a k) (hx : Bs W B d x) (hb : base ≤ W.heap.size) (hu : u.length ≤ 1000000) :
    Calls Try.prog 55 #[.slice A k.length a, .slice B x.length d, .pointer (some ⟨pl, 0, none⟩), .pointer (some ⟨pn, 0, none⟩)] W (RetR1 W base pl pn n v (u ++ [(k, x)])) := by
  obtain ⟨V0, vc, rfl⟩ := h.o.slice
  have D0 : Hid (Below W.heap.size W W.drew) := Lib.hid (below_drewN (Below.refl _ _) 1)
  have H0 := Lib.hid (h.keep D0.out)
  have c0 := h.cl
  have KS := Lib.hid (hk.below D0.out)
  have XS := Lib.hid (hx.below D0.out)
  have HB := Lib.hid hb
  have HU := Lib.hid hu
  have FAR := Lib.hid h.far
  have LTL := Lib.hid (blk_lt h.l)
  clear h hk hx hb hu
  have SB1 := Lib.hid (Help.bytes A a k W.drew KS.out)
  have SB2 := Lib.hid (fun w h => Help.bytes B d x w h)
  generalize hkl : k.length = kl at *
  have HKL := Lib.hid hkl
  generalize hxl : x.length = xl at *
  have HXL := Lib.hid hxl
  clear hkl hxl
  unfold RetR1
  rw [show ((u ++ [(k, x)]).length : Int) = (u.length : Int) + 1 by simp]
  generalize hul : u.length = ul at *
  have HUL := Lib.hid hul
  clear hul
  go_enter Try.func55, Try.ntmps55
  go_wp2_with fail
  go_region_law
    (first
    | ((refine step_pushE (E := RowE) 54 49 _ 48 (by rfl) _ _ (by rfl) Try.underlying49 info_row rfl (by decide) (by decide) (by decide) (.slice V0 ul vc) u (k, x) [Value.slice A2 kl a2, .slice B3 xl b3] w3.heap.size 1 (by rfl) (by rfl) O4.out X4.out E4.out Z4.out (by have := HUL.out; have := HU.out; omega) ?_ (fun _ h => h.elim)
        intro A5 c5 w5 o5 k5 n5
        rw [HUL.out] at o5 n5 ⊢
        have O5 := Lib.hid o5
        have K5 := Lib.hid k5
        have N6 := Lib.hid n5
        have L5 := Lib.hid (k5.blk H4.out.l (fun e => (FAR.out _ e).1 rfl))
        have N5 := Lib.hid (k5.blk H4.out.n (fun e => (FAR.out _ e).2 rfl))
        have g0 : w5.cell? ⟨pl, 0, none⟩ = some (.slice V0 ul vc) := (blk_cell L5.out 0).trans rfl
        have z0 := blk_free L5.out 0
        clear o5 k5 n5))
    | (go_simp; go_at_call 36; refine (SB2.out w2 XS2.out).mono ?_; rintro e w3 ⟨v3, rfl, o3, hb3⟩; obtain ⟨B3, b3, rfl, t3⟩ := o3.bs; have m3 := Own.nw (w := w2) o3 (Nat.le_refl _); rw [HXL.out]; have hb4 := below_alloc (Below.refl w3.heap.size w3) (.cells #[Value.slice A2 kl a2, .slice B3 xl b3] 54); have H3 := Lib.hid (H2.out.keep hb3); have f0 := H3.out.cl; have H4 := Lib.hid (H3.out.keep hb4); have j0 := H4.out.cl; have O4 := Lib.hid H4.out.o; have X4 := Lib.hid (blk_new w3 (.cells #[Value.slice A2 kl a2, .slice B3 xl b3] 54)); have hfr := fresh_row (W := W) (k := k) (v := x) (N := fun i => (fun _ => False) i ∨ (Value.slice V0 ul vc).ownBlock = some i) ((K2.out.below hb3).below hb4) (t3.below hb4) M2.out (m3.back B2.out.size) (fun i hi => hi.elim False.elim (fun h => Nat.lt_of_lt_of_le (H0.out.o.lt h) (Nat.le_refl _))); rw [HKL.out, HXL.out] at hfr; have E4 := Lib.hid hfr; have W4 := Lib.hid (below_step (below_step B2.out hb3) hb4); have Z4 := Lib.hid (Nat.le_trans HB.out W4.out.size); clear o3 t3 m3 hb3 hb4 hfr)
    | (go_simp; go_at_call 36; refine SB1.out.mono ?_; rintro e w2 ⟨v2, rfl, o2, hb2⟩; obtain ⟨A2, a2, rfl, t2⟩ := o2.bs; have m2 := Own.nw (w := W.drew) o2 (Nat.le_refl _); rw [HKL.out]; have H2 := Lib.hid (H0.out.keep hb2); have e0 := H2.out.cl; have B2 := Lib.hid (below_step D0.out hb2); have K2 := Lib.hid t2; have M2 : Hid (Nw W A2) := Lib.hid (m2.back D0.out.size); have XS2 := Lib.hid (XS.out.below hb2); clear o2 t2 m2 hb2))
  all_goals
    have RB5 : Hid (RB1 (w5.setCell ⟨pl, 0, none⟩ (.slice A5 (ul + 1) c5)) base pl pn n (.slice A5 (ul + 1) c5) (u ++ [(k, x)])) := by
      have hb0 := blk_set L5.out 0 (Value.slice A5 (ul + 1) c5)
      have kk : Only w5 (w5.setCell ⟨pl, 0, none⟩ (.slice A5 (ul + 1) c5)) (fun i => i = pl) := (Only.refl w5 (fun i => i = pl)).setCell (p := ⟨pl, 0, none⟩) (.inl rfl) _
      have hno : NoU8 w5 pl := by
        intro j y e
        rw [blk_cell L5.out j] at e
        match j with
        | 0 => cases e
        | j + 1 => simp at e
      refine ⟨hb0, blk_far N5.out (fun e => H0.out.ne e.symm) _, O5.out.rowOnly kk (fun i hi e => ?_) hno⟩
      obtain ⟨cs, hc⟩ := O5.out.blk hi
      exact blk_ne (e ▸ hc) L5.out (by decide) rfl
    have KK : Hid (Only W (w5.setCell ⟨pl, 0, none⟩ (.slice A5 (ul + 1) c5)) (fun i => i = pl ∨ (Value.slice V0 ul vc).ownBlock = some i)) := Lib.hid (((Only.of_below W4.out (fun i => i = pl ∨ (Value.slice V0 ul vc).ownBlock = some i)).then_ K5.out (fun i h => .inl (.inr h))).setCell (p := ⟨pl, 0, none⟩) (.inl (.inl rfl)) _)
    have q0 := RB5.out.cl
    have q1 := RB5.out.cn
    clear L5 N5 z0 g0
    generalize w5.setCell ⟨pl, 0, none⟩ (.slice A5 (ul + 1) c5) = w6 at *
    go_wp2_with fail
    go_ret
    have N7 : ∀ i, (Value.slice A5 (ul + 1) c5).ownBlock = some i → (Value.slice V0 ul vc).ownBlock = some i ∨ W.heap.size ≤ i := fun i hi => (N6.out i hi).imp id (fun h => Nat.le_trans W4.out.size h)
    first
      | refine ⟨.slice A5 (ul + 1) c5, ?_, RB5.out, KK.out, N7⟩
      | refine ⟨?_, .slice A5 (ul + 1) c5, RB5.out, KK.out, N7⟩
    first | rfl | (simp; rfl) | simp
end Go.Proofs.Ytnhfeoniiadjfaa.Lst
/- rows. -/
namespace Go.Proofs.Ytnhfeoniiadjfaa.Lst
open Go.RowKit Go.Proofs.Ytnhfeoniiadjfaa.K Go.Proofs.Ytnhfeoniiadjfaa.Help Go.Proofs.Ytnhfeoniiadjfaa.Pfx Go.Proofs.Ytnhfeoniiadjfaa.Peer
set_option linter.unusedVariables false

theorem noU8_one {w : World} {p : Nat} {t : TypeId} {v : Value} (h : w.heap[p]? = some (.cells #[v] t (0, 0))) (hv : ∀ b, v ≠ .int .u8 b) : NoU8 w p := by
  intro j y e
  rw [blk_cell h j] at e
  match j with
  | 0 => exact hv y (by simpa using e)
  | j + 1 => simp at e
theorem TIter.only {w w' : World} {g b p : Nat} {l : List RowD} (h : TIter w g b l) (k : Only w w' (fun i => i = p)) {v : Value} {t : TypeId} (hp : w.heap[p]? = some (.cells #[v] t (0, 0))) (ht : t ≠ 57) (hv : ∀ b, v ≠ .int .u8 b) : TIter w' g b l := by
  refine ⟨k.blk h.blk (fun e => ?_), h.map.only k (fun e => ?_) (fun i hi _ => by rw [hi]; exact noU8_one hp hv)⟩
  · have := h.blk
    rw [e, hp] at this
    injection this with this
    injection this with _ h2
    exact ht h2
  · obtain ⟨D, ⟨es, clock, hh, _⟩, _⟩ := h.map
    rw [e, hp] at hh
    cases hh
theorem take_snoc_z (l : List RowD) (k : Nat) (hk : k < l.length) : l.take k ++ [l.getD k zR] = l.take (k + 1) := (take_row l k hk).symm
theorem rows_yield (g b1 h : Nat) (l : List RowD) (n : Int) (w w3 : World) (hrb : RB1 w3 h (h + 1) h n (.slice none 0 0) []) (hit : TIter w3 g b1 l) (hw : Below w.heap.size w w3) (hn : 0 ≤ n) (hl : l.length ≤ 1000000) :
    Calls Try.prog 62 #[.func (.func 55) #[] #[.pointer (some ⟨h + 1, 0, none⟩), .pointer (some ⟨h, 0, none⟩)], .pointer (some ⟨g, 0, none⟩)] w3
      (fun e w' => e = .returned (.tuple #[]) ∧ ∃ v, RB1 w' h (h + 1) h n v (l.take (n.toNat + 1)) ∧ Only w3 w' (fun i => i = h + 1)) := by
  have hpl := blk_lt hrb.l
  refine (all1_gen 55 #[.pointer (some ⟨h + 1, 0, none⟩), .pointer (some ⟨h, 0, none⟩)] (enters_of Try.func55 (by kernel_rfl) rfl) g b1 l w3 (fun i => i = h + 1) (fun i hi => by rw [hi]; exact hpl)
    (fun M k W => ∃ v, RB1 W h (h + 1) h n v (l.take k) ∧ Only w3 W (fun i => i = h + 1) ∧ (k = 0 ∨ (k : Int) ≤ n) ∧ (∀ i, v.ownBlock = some i → M ≤ i))
    (fun W => ∃ v, RB1 W h (h + 1) h n v (l.take (n.toNat + 1)) ∧ Only w3 W (fun i => i = h + 1)) hit ?_ ?_ ?_ hl ?_).mono ?_
  · intro W1 hb
    exact ⟨_, hrb.keep hb, Only.of_below hb _, .inl rfl, fun i hi => by simp [Value.ownBlock] at hi⟩
  · rintro M k W W' ⟨v, h1, h2, h3, h4⟩ hb
    exact ⟨v, h1.keep hb, h2.then_ (Only.of_below hb (fun i => i = h + 1)) (fun i hi => .inl hi), h3, h4⟩
  · rintro M k W ⟨v, h1, h2, h3, h4⟩
    exact hit.only h2 hrb.l (by decide) (fun b e => by cases e)
  · rintro M k N W A B a d hk ⟨v, h1, h2, h3, h4⟩ hM hMN hNW hA hB hnA hnB
    have hbase : h ≤ W.heap.size := by have := h2.size; omega
    have hlen : (l.take k).length = k := by rw [List.length_take]; omega
    refine (rows1_any h (h + 1) h n v (l.take k) A B a d (l.getD k zR).1 (l.getD k zR).2 W h1 hA hB hbase (by rw [hlen]; omega)).mono ?_
    rintro e W' ⟨v', rfl, r1, k1, n1⟩
    rw [show l.take k ++ [((l.getD k zR).1, (l.getD k zR).2)] = l.take (k + 1) from take_snoc_z l k hk] at r1 ⊢
    have hlen2 : ((l.take (k + 1)).length : Int) = (k : Int) + 1 := by rw [List.length_take]; omega
    have hO : Only W W' (fun i => i = h + 1 ∨ M ≤ i) := k1.mono (fun i _ hi => hi.imp id (fun e => h4 i e))
    have h5 : Only w3 W' (fun i => i = h + 1) := h2.then_ hO (fun i hi => hi.imp id (fun e => Nat.le_trans hM e))
    refine ⟨hO, ?_⟩
    rw [hlen2]
    by_cases hc : (k : Int) + 1 ≤ n
    · exact .inl ⟨by rw [decide_eq_true hc], v', r1, h5, .inr (by push_cast; omega), fun i hi => (n1 i hi).elim (fun e => h4 i e) (fun e => by omega)⟩
    · refine .inr ⟨by rw [decide_eq_false hc], v', ?_, h5⟩
      have : n.toNat = k := by omega
      rw [this]
      exact r1
  · rintro e w' ⟨rfl, h1 | ⟨v, h1, h2⟩⟩
    · obtain ⟨M, v, h1, h2, h3, h4⟩ := h1
      refine ⟨rfl, v, ?_, h2⟩
      have e1 : l.take l.length = l.take (n.toNat + 1) := by
        rw [List.take_of_length_le (Nat.le_refl _), List.take_of_length_le (by omega)]
      rw [← e1]
      exact h1
    · exact ⟨rfl, v, h1, h2⟩
set_option maxRecDepth 100000 in
set_option maxHeartbeats 2000000 in
theorem rows_tab (p b m : Nat) (l : List RowD) (n : Int) (w : World) (h : TTab w p b m l) (hm : m ≤ 100000) (hn : 0 ≤ n) (hn2 : n ≤ 1000000) :
    Calls Try.prog 23 #[.pointer (some ⟨p, 0, none⟩), .int .i64 n] w (RetL RowE w (l.take (n.toNat + 1))) := by
  have hll := h.map.len_le
  have hb2 := below_alloc (below_alloc (Below.refl w.heap.size w) (.cells #[.int .i64 n] 3)) (.cells #[.slice none 0 0] 49)
  have AL := Lib.hid (all_any p b m l _ (h.keep hb2) hm)
  have W2 := Lib.hid hb2
  have XN := Lib.hid (blk_alloc (blk_new w (.cells #[.int .i64 n] 3)) (.cells #[.slice none 0 0] 49))
  have XL := Lib.hid (blk_two w (.cells #[.int .i64 n] 3) (.cells #[.slice none 0 0] 49))
  have HL := Lib.hid (show l.length ≤ 100000 by omega)
  have HN := Lib.hid hn
  clear h hll hb2 hm hn
  go_enter Try.func23, Try.ntmps23
  go_wp2_with fail
  (with_reducible refine AL.out.mono ?_)
  rintro e w3 ⟨g, b1, rfl, hg, hb1, it, hb3⟩
  have IT := Lib.hid it
  have RB : Hid (RB1 w3 w.heap.size (w.heap.size + 1) w.heap.size n (.slice none 0 0) []) := Lib.hid ⟨(hb3.block _ (blk_lt XL.out)).trans XL.out, (hb3.block _ (blk_lt XN.out)).trans XN.out, OwnL.nil _ _ _ _ _⟩
  have W3 := Lib.hid (below_step W2.out hb3)
  clear hg hb1 it hb3
  unfold allFn
  have hnil : ∀ W : World, (binOp .eql 70 (.func (.func 62) #[] #[.pointer (some ⟨g, 0, none⟩)]) Value.nilFunc).run Try.prog W = .ok (.bool false) W := fun W => by kernel_rfl
  go_wp2_with fail
  have Y := Lib.hid (rows_yield g b1 w.heap.size l n w w3 RB.out IT.out W3.out HN.out (by have := HL.out; omega))
  go_wp2_with fail
  (with_reducible refine Y.out.mono ?_)
  rintro e w4 ⟨rfl, v, rb4, k4⟩
  have RB4 := Lib.hid rb4
  have q0 := rb4.cl
  have W4 := Lib.hid (below_only W3.out k4 (fun i hi => by omega))
  clear rb4 k4
  obtain ⟨V0, vc, rfl⟩ := RB4.out.o.slice
  obtain ⟨A9, a9, e9, l9⟩ := RB4.out.o.lst (fun _ _ h => h)
  have E9 := Lib.hid e9
  have L9 := Lib.hid l9
  clear e9 l9
  go_wp2_with fail
  go_ret
  exact ⟨A9, a9, by rw [← E9.out]; first | rfl | simp, L9.out, W4.out⟩
end Go.Proofs.Ytnhfeoniiadjfaa.Lst
/- bits.width and Put at uint16 (printed by gen/bits.py). -/
namespace Go.Proofs.Ytnhfeoniiadjfaa.Bits
open Go.RowKit Go.Proofs.Ytnhfeoniiadjfaa.K
set_option linter.unusedVariables false
set_option maxRecDepth 100000 in
theorem width_uint16 (w : World) : Calls Try.prog 74 #[] w fun e w' => e = .returned (.int .i64 2) ∧ w = w' := by
  go_enter Try.func74, Try.ntmps74
  go_wp2_with fail
  go_loopg [1, 2] 2 (fun gk n x wr => wr = w ∧ ((gk = 2 ∧ n = .int .i64 0 ∧ x = .int .u64 65535) ∨ (gk = 1 ∧ n = .int .i64 1 ∧ x = .int .u64 255) ∨ (gk = 0 ∧ n = .int .i64 2 ∧ x = .int .u64 0)))
  case atStart => exact ⟨rfl, .inl ⟨rfl, rfl, rfl⟩⟩
  case round =>
    obtain ⟨rfl, h⟩ := hrel
    rcases h with ⟨rfl, rfl, rfl⟩ | ⟨rfl, rfl, rfl⟩ | ⟨rfl, rfl, rfl⟩
    · go_wp2_with fail
      go_roundg 1
      case measure => omega
      case rel => exact ⟨rfl, .inr (.inl ⟨rfl, rfl, rfl⟩)⟩
    · go_wp2_with fail
      go_roundg 0
      case measure => omega
      case rel => exact ⟨rfl, .inr (.inr (⟨rfl, rfl, rfl⟩))⟩
    · go_wp2_with fail
      go_ret
      exact ⟨rfl, rfl⟩

set_option maxRecDepth 100000 in
theorem put_uint16 (A : Option Addr) (c : Nat) (l : List UInt8) (x : Nat) (w : World) (hs : Bs w A c l) (hl : l.length ≤ 140737488351232) (hx : x < 65536) :
    Calls Try.prog 49 #[.slice A l.length c, .int .u16 (x : Int)] w (Ret w (l ++ be 2 x)) := by
  have hmk := fun W => make_u8 (l.length + 2) (by omega) W
  have hL := blk_made w (l.length + 2)
  obtain ⟨w2, hcopy, hb2, ho2⟩ := copy_u8 (n := l.length + 2) (dc := l.length + 2) (o := 0) hL (hs.below ((Below.refl _ _).alloc (Nat.le_refl _) _)) (by simp) 3
  have HB2 : Hid (Blk w2 w.heap.size (l ++ List.replicate 2 0) ∧ Below w.heap.size w w2) := by
    have hm : Nat.min l.length (l.length + 2) = l.length := Nat.min_eq_left (by omega)
    rw [hm] at hb2
    refine ⟨?_, below_only ((Below.refl _ _).alloc (Nat.le_refl _) _) ho2 (fun i hi => by rw [hi]; exact Nat.le_refl _)⟩
    simpa [List.take_of_length_le] using hb2
  have hln : l.length ≤ 9223372036854775000 := by omega
  have hmk2 : ∀ W : World, (Instr.makeSlice 27 (.int .i64 ((l.length : Int) + 2)) (.int .i64 ((l.length : Int) + 2))).run Try.prog W = .ok (.slice (some ⟨W.heap.size, 0, none⟩) (l.length + 2) (l.length + 2)) (W.alloc (.cells (u8s (zs (l.length + 2))).toArray 5)) := fun W => by
    have h := hmk W
    push_cast at h
    exact h
  clear hmk hL hb2 ho2
  have HS := Lib.hid hs
  clear hs
  go_enter Try.func49, Try.ntmps49
  go_wp2_with (go_at_call 74; refine (width_uint16 _).mono ?_; rintro e w' ⟨rfl, rfl⟩)
  go_loopg [18] 2 (fun gk i wr => ∃ j : Nat, j ≤ 2 ∧ gk = 2 - j ∧ i = .int .i64 (j : Int) ∧ Blk wr w.heap.size (l ++ List.replicate (2 - j) 0 ++ be j x) ∧ Below w.heap.size w wr)
  case atStart => exact ⟨0, by omega, rfl, rfl, by simpa [be] using HB2.out.1, HB2.out.2⟩
  case round =>
    obtain ⟨j, hj, rfl, rfl, hb, hbel⟩ := hrel
    have HB := Lib.hid hb
    have HBL := Lib.hid hbel
    have HLN := Lib.hid (show (l ++ List.replicate (2 - j) 0 ++ be j x).length = l.length + 2 by simp [be_len]; omega)
    clear hb hbel
    by_cases hlt : j < 2
    · have hlt2 : (j : Int) < 2 := by omega
      have hc1 := HB.out.cell (l.length + 1 - j) (by rw [HLN.out]; omega)
      have hf1 := HB.out.free (l.length + 1 - j)
      have hw : IntKind.u8.wrap ((x : Int) / 2 ^ (8 * j)) = ((UInt8.ofNat (x / 2 ^ (8 * j))).toNat : Int) := kind8 x j
      have HST := Lib.hid (be_step l 2 j x hlt)
      rw [show l.length + 2 - 1 - j = l.length + 1 - j by omega] at HST
      have HSET := Lib.hid (HB.out.set (l.length + 1 - j) (UInt8.ofNat (x / 2 ^ (8 * j))))
      generalize UInt8.ofNat (x / 2 ^ (8 * j)) = y at hw HST HSET
      generalize (l ++ List.replicate (2 - j) 0 ++ be j x).getD (l.length + 1 - j) 0 = z at hc1
      go_wp2_with fail
      go_roundg (2 - (j + 1))
      case measure => omega
      case rel =>
        refine ⟨j + 1, by omega, rfl, by go_num, ?_, below_only HBL.out ((Only.refl wr (fun k => k = w.heap.size)).setCell (p := ⟨w.heap.size, _, none⟩) (.inl rfl) _) (fun i hi => by rw [hi]; exact Nat.le_refl _)⟩
        rw [← HST.out]
        exact HSET.out
    · obtain rfl : j = 2 := by omega
      go_wp2_with fail
      go_ret
      have h := HB.out
      simp only [Nat.sub_self, List.replicate_zero, List.append_nil] at h
      have h2 := h.own (base := w.heap.size) (Nat.le_refl _) (by simp [be_len]; omega)
      have hl2 : (l ++ be 2 x).length = l.length + 2 := by simp [be_len]
      rw [hl2] at h2
      exact ⟨_, rfl, h2, HBL.out⟩

end Go.Proofs.Ytnhfeoniiadjfaa.Bits
/- PutSets. -/
namespace Go.Proofs.Ytnhfeoniiadjfaa.Lst
open Go.RowKit Go.Proofs.Ytnhfeoniiadjfaa.K Go.Proofs.Ytnhfeoniiadjfaa.Help Go.Proofs.Ytnhfeoniiadjfaa.Pfx Go.Proofs.Ytnhfeoniiadjfaa.Peer Go.Proofs.Ytnhfeoniiadjfaa.Bits
set_option linter.unusedVariables false

/-- a set's bytes -/
def kindB (g : Bool) : Nat := if g = true then 0 else 1
def rowB (s : SetD) : List UInt8 := be 1 (kindB s.2.2) ++ be 1 s.1.length ++ be 2 s.2.1.length ++ s.1 ++ s.2.1
/-- set k may be, and its key rises -/
def okAtS (l : List SetD) (k : Nat) : Bool := mayB (l.getD k zeroSet) && (decide (k = 0) || decide ((l.getD (k - 1) zeroSet).1 < (l.getD k zeroSet).1))
def okS (l : List SetD) (n : Nat) : Bool := decide (∀ k, k < n → okAtS l k = true)
def putSetsD (l : List SetD) : List UInt8 × Int := if okS l l.length = true then (l.flatMap rowB, 0) else ([], 114)
theorem okS_no {l : List SetD} {k n : Nat} (hk : k < n) (h : okAtS l k = false) : okS l n = false := by
  unfold okS
  rw [decide_eq_false_iff_not]
  intro h2
  rw [h2 k hk] at h
  cases h
theorem okS_step {l : List SetD} {k : Nat} (h : okS l k = true) (h2 : okAtS l k = true) : okS l (k + 1) = true := by
  unfold okS at *
  rw [decide_eq_true_eq] at *
  intro j hj
  rcases Nat.lt_or_ge j k with h3 | h3
  · exact h j h3
  · have : j = k := by omega
    subst this; exact h2
theorem mayB_le {s : SetD} (h : mayB s = true) : 1 ≤ s.1.length ∧ s.1.length ≤ 40 ∧ s.2.1.length ≤ 480 := by
  unfold mayB at h
  rw [Bool.and_eq_true] at h
  exact of_decide_eq_true h.2
theorem flat_le {l : List SetD} : ∀ (k : Nat), k ≤ l.length → okS l k = true → ((l.take k).flatMap rowB).length ≤ k * 600
  | 0, _, _ => by simp
  | k + 1, hk, h => by
    have h1 : okS l k = true := by
      unfold okS at *
      rw [decide_eq_true_eq] at *
      exact fun j hj => h j (by omega)
    have h2 : okAtS l k = true := by
      unfold okS at h
      rw [decide_eq_true_eq] at h
      exact h k (by omega)
    have ih := flat_le k (by omega) h1
    unfold okAtS at h2
    rw [Bool.and_eq_true] at h2
    have hm := mayB_le h2.1
    have e : l.getD k zeroSet = l[k] := by simp [show k < l.length by omega]
    rw [e] at hm
    rw [List.take_succ_eq_append_getElem (by omega), List.flatMap_append, List.length_append, List.flatMap_cons, List.flatMap_nil, List.append_nil]
    have : (rowB l[k]).length ≤ 600 := by unfold rowB; simp only [List.length_append, be_len]; omega
    omega
theorem flat_step (l : List SetD) (k : Nat) (hk : k < l.length) : (l.take (k + 1)).flatMap rowB = (l.take k).flatMap rowB ++ rowB (l.getD k zeroSet) := by
  have e : l.getD k zeroSet = l[k] := by simp [hk]
  rw [List.take_succ_eq_append_getElem hk, List.flatMap_append, e]
  simp
section
variable {ops : Array Oper} {rest : List Oper} {o : Oper} {a : Act} {Q : Exit → Act → World → Prop}
theorem run_app_nil (w : World) (base : Nat) (ty : TypeId) (v : Value) (l : List UInt8) (h : Own w base v l) (c : Nat) : (Builtin.append_ #[27, 27] ty #[v, .slice none 0 c]).run Try.prog w = .ok v w := by
  obtain ⟨i0, hi, hzz⟩ := Option.map_eq_some_iff.1 info_u8
  rcases h.1.2 with ⟨rfl, _⟩ | ⟨g, cap, cur, rfl, _, _, hnc, _⟩
  · simp [Builtin.append_, run_underlying u_slice8, sizeOf, typeInfo, hi, Builtin.lenOf, Builtin.firstCells]
  · simp [Builtin.append_, run_underlying u_slice8, sizeOf, typeInfo, hi, Builtin.lenOf, Builtin.firstCells, hnc, storeCells]
/-- append(v, m...), whatever m -/
theorem push_any {B : Nat} {W : World} (hgd : o.guard = none) (s x : Operand)
    (ho : o.op = .call { callee := .builtin .append, args := #[s, x], argTypes := #[27, 27] })
    (v : Value) (l m : List UInt8) (A : Option Addr) (mc : Nat) (hs : a.eval s = v) (hx : a.eval x = .slice A m.length mc)
    (HO : Own W B v l) (HM : Bs W A mc m) (hBW : B ≤ W.heap.size) (hl : l.length + m.length ≤ 140737488355328)
    (h : ∀ A' c' w1, Own w1 B (.slice A' (l ++ m).length c') (l ++ m) → Only W w1 (fun k => v.ownBlock = some k) → wpList Try.prog ops Q rest (a.put o.dst (.slice A' (l ++ m).length c')) w1) :
    wpList Try.prog ops Q (o :: rest) a W := by
  rcases A with _ | ad
  · have h0 : m = [] := by
      rcases m with _ | ⟨y, r⟩
      · rfl
      · obtain ⟨ad, h', _⟩ := HM.at_ 0 (by simp)
        cases h'
    subst h0
    rw [List.append_nil] at h
    obtain ⟨A', c', rfl, _⟩ := HO.bs
    have hrun := run_app_nil W B o.type _ l HO mc
    refine wpList_plain hgd fun K hK => ?_
    unfold Oper.wp
    simp [execOp, ho, resolve, invoke, builtin, hs, hx, hrun, Result.andThen]
    exact hK _ _ (h A' c' W HO (Only.refl _ _))
  · exact push_at hgd s x ho v l m ad mc hs hx HO HM hBW hl h
end
def RetPS (w : World) (r : List UInt8 × Int) (e : Ending) (w' : World) : Prop := ∃ B d, e = .returned (.tuple #[.slice B r.1.length d, .int .i64 r.2]) ∧ Bs w' B d r.1 ∧ Below w.heap.size w w' ∧ Nw w B
end Go.Proofs.Ytnhfeoniiadjfaa.Lst
/- The walk of PutSets. -/
namespace Go.Proofs.Ytnhfeoniiadjfaa.Lst
open Go.RowKit Go.Proofs.Ytnhfeoniiadjfaa.K Go.Proofs.Ytnhfeoniiadjfaa.Help Go.Proofs.Ytnhfeoniiadjfaa.Pfx Go.Proofs.Ytnhfeoniiadjfaa.Peer Go.Proofs.Ytnhfeoniiadjfaa.Bits
set_option linter.unusedVariables false

theorem bs_own {w w' : World} {H : Nat} {T : Nat → Prop} {A : Option Addr} {c : Nat} {l : List UInt8} (h : Bs w A c l) {W1 : World} (h1 : Bs W1 A c l) (hH : W1.heap.size ≤ H) (k : Only w w' T) (hT : ∀ i, T i → H ≤ i) : Bs w' A c l :=
  (BsN.only (N := fun i => H ≤ i) ⟨h, fun hl ad e hn => by have := Bs.blk h1 hl ad e; omega⟩ k (fun i _ ht => hT i ht)).1
def RowB1 (l : List SetD) (k : Nat) (xk xv : List UInt8) (xg : Bool) : Prop := (l.take (k + 1)).flatMap rowB = (((((l.take k).flatMap rowB ++ be 1 (kindB xg)) ++ be 1 xk.length) ++ be 2 xv.length) ++ xk) ++ xv
theorem list_str (l : List UInt8) : (⟨l.toArray⟩ : ByteArray).toList = l := by simp
set_option maxRecDepth 100000 in
set_option maxHeartbeats 3000000 in
theorem putSets_any (A : Option Addr) (a : Nat) (l : List SetD) (w : World) (hs : Lst SetE w (fun _ => False) A a l) (hm : l.length ≤ 100000) :
    Calls Try.prog 12 #[.slice A l.length a] w (RetPS w (putSetsD l)) := by
  have HS := Lib.hid hs
  have h1 := hs.le
  have h2 := hs.max
  have HML := Lib.hid hm
  clear hs hm
  generalize hr : putSetsD l = res
  have HR := Lib.hid hr
  clear hr
  unfold putSetsD at HR
  generalize hmm : l.length = m at *
  have HM := Lib.hid hmm
  clear hmm
  go_enter Try.func12, Try.ntmps12
  go_wp2_with fail
  go_loopg [10, 4] m (fun gk i s4 wr => ∃ k : Nat, k ≤ m ∧ gk = m - k ∧ i = .int .i64 (k : Int) ∧ Hid (okS l k = true) ∧ Hid (Own wr w.heap.size s4 ((l.take k).flatMap rowB)) ∧ Hid (Below w.heap.size w wr))
  case atStart => exact ⟨0, by omega, rfl, rfl, by simp [Hid, okS], Own.nil _ _, Below.refl _ _⟩
  case round =>
    obtain ⟨k, hk, rfl, rfl, HA, HO, HW⟩ := hrel
    obtain ⟨A0, d0, rfl, sO⟩ := HO.out.bs
    have SO := Lib.hid sO
    clear sO
    by_cases hlt : k < m
    · have i1 : (k : Int) < (m : Int) := by omega
      have i0 : (0 : Int) ≤ (k : Int) := by omega
      have HNO := Lib.hid (okS_no (l := l) (k := k) (n := m) hlt)
      have HYS := Lib.hid (okS_step (l := l) (k := k) HA.out)
      have HFL := Lib.hid (flat_le (l := l) k (by rw [HM.out]; omega) HA.out)
      have HFS := Lib.hid (flat_step l k (by rw [HM.out]; exact hlt))
      obtain ⟨bk, off, A1, a1, B1, b1, eA, hbk, c0, c1, c2, s1, s2⟩ := HS.out.set k _ (getD_get zeroSet (by rw [HM.out]; exact hlt))
      have hok : okAtS l k = (mayB (l.getD k zeroSet) && (decide (k = 0) || decide ((l.getD (k - 1) zeroSet).1 < (l.getD k zeroSet).1))) := rfl
      obtain ⟨⟨xk, xv, xg⟩, hx⟩ : ∃ y, l.getD k zeroSet = y := ⟨_, rfl⟩
      rw [hx] at c0 c1 c2 s1 s2 hok HFS
      dsimp only at c0 c1 c2 s1 s2 hok
      have y0 : wr.cell? ⟨bk, off + k * 3, none⟩ = some (.slice A1 xk.length a1) := (HW.out.cell (p := ⟨bk, _, none⟩) hbk).trans c0
      have y1 : wr.cell? ⟨bk, off + k * 3 + 1, none⟩ = some (.slice B1 xv.length b1) := (HW.out.cell (p := ⟨bk, _, none⟩) hbk).trans c1
      have y2 : wr.cell? ⟨bk, off + k * 3 + 2, none⟩ = some (.bool xg) := (HW.out.cell (p := ⟨bk, _, none⟩) hbk).trans c2
      have hb := below_alloc (Below.refl wr.heap.size wr) (.cells #[.slice A1 xk.length a1, .slice B1 xv.length b1, .bool xg] 37)
      have hx2 := blk_new wr (.cells #[.slice A1 xk.length a1, .slice B1 xv.length b1, .bool xg] 37)
      have W1 := Lib.hid (below_step HW.out hb)
      have SO1 := Lib.hid (SO.out.below hb)
      have K1 := Lib.hid (s1.1.below W1.out)
      have V1 := Lib.hid (s2.1.below W1.out)
      have hsz : wr.heap.size < (wr.alloc (.cells #[.slice A1 xk.length a1, .slice B1 xv.length b1, .bool xg] 37)).heap.size := by simp
      have hE : RowB1 l k xk xv xg := by
        unfold RowB1
        rw [HFS.out]
        simp only [rowB]
        simp
      have HE := Lib.hid hE
      rw [show mayB (xk, xv, xg) = mayN xk.length xv.length xg from rfl] at hok
      have HLE := Lib.hid (fun h : mayN xk.length xv.length xg = true => mayB_le (s := (xk, xv, xg)) h)
      have VM := Lib.hid (fun p : Cls (Since (wr.alloc (.cells #[.slice A1 xk.length a1, .slice B1 xv.length b1, .bool xg] 37))) => may_any A1 B1 xk.length a1 xv.length b1 xg p.W)
      have HOK := Lib.hid hok
      have HX2 := Lib.hid hx2
      have HSZ := Lib.hid hsz
      clear c1 c2 s1 s2 hx hb hE hok hx2 hsz HFS
      unfold RowB1 at HE
      generalize hL0 : (l.take k).flatMap rowB = L0 at *
      have HL0 := Lib.hid hL0
      clear hL0
      subst eA
      go_wp2_with fail
      generalize hW1 : wr.alloc (.cells #[.slice A1 xk.length a1, .slice B1 xv.length b1, .bool xg] 37) = U at *
      clear hW1 y0 y1 y2
      have x0 := Since.cell ((blk_cell HX2.out 0).trans (b := some (Value.slice A1 xk.length a1)) rfl) HSZ.out
      have x1 := Since.cell ((blk_cell HX2.out 1).trans (b := some (Value.slice B1 xv.length b1)) rfl) HSZ.out
      have x2 := Since.cell ((blk_cell HX2.out 2).trans (b := some (Value.bool xg)) rfl) HSZ.out
      have HG0 := Lib.hid (Since.drew (Below.refl U.heap.size U))
      generalize hmb : mayN xk.length xv.length xg = mb at *
      clear hmb
      cases mb
      · have HF : Hid (res = ([], 114)) := by
          rw [Hid, ← HR.out, HNO.out (by rw [HOK.out]; rfl)]
          rfl
        refine wp_region_quiet_cls (Since U) (by kernel_rfl) (by kernel_rfl) HG0.out ?_
        repeat (go_big_quiet_step ((go_at_call 47; exact calls_cls Since.step (VM.out _))))
        refine wpQuiet_nil ?_
        intro _ hw'
        obtain ⟨nq, hw''⟩ := hw'
        subst hw''
        have WQ := Lib.hid (below_step W1.out nq.ok)
        go_wp2_with fail
        exact bodyPost_ret (v := .tuple #[.slice none 0 0, .int .i64 114]) (by simp [results, Try.results12, go_sem]) rfl ⟨none, 0, by rw [HF.out]; rfl, by rw [HF.out]; exact Bs.nil _ _ _, WQ.out, Nw.none _⟩
      · obtain ⟨m1, m2, m3⟩ := HLE.out (by first | rfl | trivial)
        have HRD := Lib.hid (HYS.out)
        rcases Nat.eq_zero_or_pos k with hk0 | hk0
        · have hz1 : decide ((0 : Int) < (k : Int)) = false := by rw [decide_eq_false_iff_not]; omega
          have hz2 : decide (0 < k) = false := by rw [decide_eq_false_iff_not]; omega
          have HOK2 : Hid (okS l (k + 1) = true) := Lib.hid (HYS.out (by rw [HOK.out, decide_eq_true hk0]; rfl))
          clear hk0
          refine wp_region_quiet_cls (Since U) (by kernel_rfl) (by kernel_rfl) HG0.out ?_
          repeat (go_big_quiet_step ((go_at_call 47; exact calls_cls Since.step (VM.out _))))
          refine wpQuiet_nil ?_
          intro _ hw'
          obtain ⟨nq, hw''⟩ := hw'
          subst hw''
          have BU := Lib.hid (show Below U.heap.size U nq.W from nq.ok)
          generalize nq.W = U2 at *
          have HXU := Lib.hid ((BU.out.block _ HSZ.out).trans HX2.out)
          have SO2 := Lib.hid (SO1.out.below BU.out)
          have K2 := Lib.hid (K1.out.below BU.out)
          have V2 := Lib.hid (V1.out.below BU.out)
          have W2 := Lib.hid (below_step W1.out BU.out)
          have GS : Hid (wr.heap.size < U2.heap.size) := Lib.hid (Nat.lt_of_lt_of_le HSZ.out BU.out.size)
          have e0 := (blk_cell HXU.out 0).trans (b := some (Value.slice A1 xk.length a1)) rfl
          have e1 := (blk_cell HXU.out 1).trans (b := some (Value.slice B1 xv.length b1)) rfl
          have e2 := (blk_cell HXU.out 2).trans (b := some (Value.bool xg)) rfl
          clear x0 x1 x2 HG0 VM SO SO1 K1 V1
          have LN0 : Hid (L0.length ≤ 60000000) := Lib.hid (by have := HFL.out; have := HML.out; omega)
          have HKL : Hid (xk.length ≤ 40) := Lib.hid m2
          have HVL : Hid (xv.length ≤ 480) := Lib.hid m3
          have HEX : Hid ((l.take (k + 1)).flatMap rowB = (((((L0 ++ be 1 (kindB xg)) ++ be 1 xk.length) ++ be 2 xv.length) ++ xk) ++ xv)) := HE
          have hw8 : IntKind.u8.wrap (xk.length : Int) = (xk.length : Int) := IntWalk.u8_in _ (by omega)
          have hw16 : IntKind.u16.wrap (xv.length : Int) = (xv.length : Int) := IntWalk.u16_in _ (by omega)
          clear m1 m2 m3 HE
          have P1 : Hid (∀ z : Int, z = ((kindB xg : Nat) : Int) → Calls Try.prog 48 #[.slice A0 L0.length d0, .int .u8 z] U2 (Ret U2 (L0 ++ be 1 (kindB xg)))) := Lib.hid (fun z e => by rw [e]; exact put_uint8 A0 d0 L0 (kindB xg) U2 SO2.out (by have := LN0.out; omega) (by unfold kindB; split <;> omega))
          generalize hL1 : L0 ++ be 1 (kindB xg) = L1 at *
          have LN1 : Hid (L1.length ≤ 60000001) := Lib.hid (by rw [← hL1, List.length_append, be_len]; have := LN0.out; omega)
          clear hL1
          have cases_g : Hid True := trivial
          cases xg
          all_goals
            go_wp2_with fail
            (with_reducible refine (P1.out _ ?_).mono ?_)
            · rfl
            rintro e w3 ⟨v3, rfl, o3, hb3⟩
            obtain ⟨A3, d3, rfl, s3⟩ := o3.bs
            have B3 := Lib.hid hb3
            have f0 : w3.cell? ⟨wr.heap.size, 0, none⟩ = some (.slice A1 xk.length a1) := (hb3.cell (p := ⟨wr.heap.size, 0, none⟩) GS.out).trans e0
            have f1 : w3.cell? ⟨wr.heap.size, 1, none⟩ = some (.slice B1 xv.length b1) := (hb3.cell (p := ⟨wr.heap.size, 1, none⟩) GS.out).trans e1
            have P2 := Lib.hid (put_uint8 A3 d3 L1 xk.length w3 s3 (by have := LN1.out; omega) (by have := HKL.out; omega))
            generalize hL2 : L1 ++ be 1 xk.length = L2 at *
            have LN2 : Hid (L2.length ≤ 60000002) := Lib.hid (by rw [← hL2, List.length_append, be_len]; have := LN1.out; omega)
            clear hL2 o3 hb3 s3
            go_wp2_with fail
            (with_reducible refine P2.out.mono ?_)
            rintro e w4 ⟨v4, rfl, o4, hb4⟩
            obtain ⟨A4, d4, rfl, s4⟩ := o4.bs
            have B4 := Lib.hid (below_step B3.out hb4)
            have g0 : w4.cell? ⟨wr.heap.size, 0, none⟩ = some (.slice A1 xk.length a1) := (B4.out.cell (p := ⟨wr.heap.size, 0, none⟩) GS.out).trans e0
            have g1 : w4.cell? ⟨wr.heap.size, 1, none⟩ = some (.slice B1 xv.length b1) := (B4.out.cell (p := ⟨wr.heap.size, 1, none⟩) GS.out).trans e1
            have P3 := Lib.hid (put_uint16 A4 d4 L2 xv.length w4 s4 (by have := LN2.out; omega) (by have := HVL.out; omega))
            generalize hL3 : L2 ++ be 2 xv.length = L3 at *
            have LN3 : Hid (L3.length ≤ 60000004) := Lib.hid (by rw [← hL3, List.length_append, be_len]; have := LN2.out; omega)
            clear hL3 o4 hb4 s4
            go_wp2_with fail
            (with_reducible refine P3.out.mono ?_)
            rintro e w5 ⟨v5, rfl, o5, hb5⟩
            obtain ⟨A5, d5, rfl, s5⟩ := o5.bs
            have B5 := Lib.hid (below_step B4.out hb5)
            have O5 := Lib.hid o5
            have Z5 := Lib.hid hb5.size
            have H5 := Lib.hid ((B5.out.block _ GS.out).trans HXU.out)
            have K5 := Lib.hid (K2.out.below B5.out)
            have V5 := Lib.hid (V2.out.below B5.out)
            have j0 : w5.cell? ⟨wr.heap.size, 0, none⟩ = some (.slice A1 xk.length a1) := (B5.out.cell (p := ⟨wr.heap.size, 0, none⟩) GS.out).trans e0
            clear o5 hb5 s5
            go_wp2_with (first
              | (at_builtin; refine push_any (B := w4.heap.size) rfl (.tmp 52) (.tmp 54) rfl (.slice A5 L3.length d5) L3 xk A1 a1 rfl rfl O5.out K5.out Z5.out (by have := LN3.out; have := HKL.out; omega) ?_; intro A6 d6 w6 o6 k6; generalize hL4 : L3 ++ xk = L4 at *; have LN4 : Hid (L4.length ≤ 60000044) := Lib.hid (by rw [← hL4, List.length_append]; have := LN3.out; have := HKL.out; omega); have HB6 : Hid (∀ i, (Value.slice A5 L3.length d5).ownBlock = some i → w4.heap.size ≤ i) := Lib.hid (fun i hi => O5.out.base_le hi); have O6 := Lib.hid o6; have K6 := Lib.hid k6; have V6 := Lib.hid (bs_own V5.out V2.out B4.out.size k6 HB6.out); have l1 : w6.cell? ⟨wr.heap.size, 1, none⟩ = some (.slice B1 xv.length b1) := (blk_cell (k6.blk H5.out (fun e => by have h1 := HB6.out _ e; have h2 := B4.out.size; have h3 := GS.out; omega)) 1).trans rfl; have Z6 : Hid (w4.heap.size ≤ w6.heap.size) := Lib.hid (Nat.le_trans Z5.out k6.size); clear hL4 o6 k6)
              | (at_builtin; refine push_any (B := w4.heap.size) rfl (.tmp 56) (.tmp 58) rfl (.slice A6 L4.length d6) L4 xv B1 b1 rfl rfl O6.out V6.out Z6.out (by have := LN4.out; have := HVL.out; omega) ?_; intro A7 d7 w7 o7 k7; generalize hL5 : L4 ++ xv = L5 at *; have O7 := Lib.hid o7; have K7 := Lib.hid k7; clear o7 k7 hL5))
            have HB7 : Hid (Below w.heap.size w w7) := Lib.hid (below_only (below_only (below_step W2.out B5.out) K6.out (fun i hi => Nat.le_trans W2.out.size (Nat.le_trans B4.out.size (HB6.out i hi)))) K7.out (fun i hi => Nat.le_trans W2.out.size (Nat.le_trans B4.out.size (O6.out.base_le hi))))
            have HO7 : Hid (Own w7 w.heap.size (.slice A7 L5.length d7) ((l.take (k + 1)).flatMap rowB)) := Lib.hid (by rw [HEX.out]; exact O7.out.mono (Nat.le_trans W2.out.size B4.out.size))
            go_roundg (m - (k + 1))
            case measure => omega
            case rel => exact ⟨k + 1, by omega, rfl, by go_num, HOK2, HO7, HB7⟩
        · have hz1 : (0 : Int) < (k : Int) := by omega
          have hz2 : 0 < k := hk0
          obtain ⟨bk', off', A2, a2, B2, b2, eA', hbk', p0, -, -, q1, -⟩ := HS.out.set (k - 1) _ (getD_get zeroSet (by rw [HM.out]; omega))
          cases eA'
          have hsub : IntKind.i64.wrap ((k : Int) - 1) = (k : Int) - 1 := IntWalk.i64_in _ (by omega)
          have hs0 : (0 : Int) ≤ (k : Int) - 1 := by omega
          have hs1 : (k : Int) - 1 < (m : Int) := by omega
          have hs2 : ((k : Int) - 1).toNat = k - 1 := by omega
          have z0 := Since.cell ((W1.out.cell (p := ⟨bk, _, none⟩) hbk').trans p0) (Nat.lt_of_lt_of_le hbk' W1.out.size)
          have Q1 := Lib.hid (q1.1.below W1.out)
          have hkk : decide (k = 0) = false := decide_eq_false (by omega)
          rw [hkk, Bool.false_or] at HOK
          generalize (l.getD (k - 1) zeroSet).1 = pk at *
          have cvp : ∀ p : Cls (Since U), (convert 27 9 (.slice A2 pk.length a2)).run Try.prog p.W = .ok (.string ⟨pk.toArray⟩) p.W := fun p => str_of A2 a2 pk p.W (Q1.out.below p.ok)
          have cvk : ∀ p : Cls (Since U), (convert 27 9 (.slice A1 xk.length a1)).run Try.prog p.W = .ok (.string ⟨xk.toArray⟩) p.W := fun p => str_of A1 a1 xk p.W (K1.out.below p.ok)
          clear hkk hk0 p0 q1 hbk'
          by_cases hpx : pk < xk
          · have HOK2 : Hid (okS l (k + 1) = true) := Lib.hid (HYS.out (by rw [HOK.out, decide_eq_true hpx]; rfl))
            have hless : Op.bytesLess pk xk = true := by rw [bytesLess_eq]; exact decide_eq_true hpx
            have hless2 : Op.bytesLess (⟨pk.toArray⟩ : ByteArray).toList (⟨xk.toArray⟩ : ByteArray).toList = true := by rw [list_str, list_str]; exact hless
            clear hpx
            refine wp_region_quiet_cls (Since U) (by kernel_rfl) (by kernel_rfl) HG0.out ?_
            repeat (go_big_quiet_step ((go_at_call 47; exact calls_cls Since.step (VM.out _))))
            clear cvp cvk z0 hsub hs0 hs1 hs2 hless hless2
            refine wpQuiet_nil ?_
            intro _ hw'
            obtain ⟨nq, hw''⟩ := hw'
            subst hw''
            have BU := Lib.hid (show Below U.heap.size U nq.W from nq.ok)
            generalize nq.W = U2 at *
            have HXU := Lib.hid ((BU.out.block _ HSZ.out).trans HX2.out)
            have SO2 := Lib.hid (SO1.out.below BU.out)
            have K2 := Lib.hid (K1.out.below BU.out)
            have V2 := Lib.hid (V1.out.below BU.out)
            have W2 := Lib.hid (below_step W1.out BU.out)
            have GS : Hid (wr.heap.size < U2.heap.size) := Lib.hid (Nat.lt_of_lt_of_le HSZ.out BU.out.size)
            have e0 := (blk_cell HXU.out 0).trans (b := some (Value.slice A1 xk.length a1)) rfl
            have e1 := (blk_cell HXU.out 1).trans (b := some (Value.slice B1 xv.length b1)) rfl
            have e2 := (blk_cell HXU.out 2).trans (b := some (Value.bool xg)) rfl
            clear x0 x1 x2 HG0 VM SO SO1 K1 V1
            have LN0 : Hid (L0.length ≤ 60000000) := Lib.hid (by have := HFL.out; have := HML.out; omega)
            have HKL : Hid (xk.length ≤ 40) := Lib.hid m2
            have HVL : Hid (xv.length ≤ 480) := Lib.hid m3
            have HEX : Hid ((l.take (k + 1)).flatMap rowB = (((((L0 ++ be 1 (kindB xg)) ++ be 1 xk.length) ++ be 2 xv.length) ++ xk) ++ xv)) := HE
            have hw8 : IntKind.u8.wrap (xk.length : Int) = (xk.length : Int) := IntWalk.u8_in _ (by omega)
            have hw16 : IntKind.u16.wrap (xv.length : Int) = (xv.length : Int) := IntWalk.u16_in _ (by omega)
            clear m1 m2 m3 HE
            have P1 : Hid (∀ z : Int, z = ((kindB xg : Nat) : Int) → Calls Try.prog 48 #[.slice A0 L0.length d0, .int .u8 z] U2 (Ret U2 (L0 ++ be 1 (kindB xg)))) := Lib.hid (fun z e => by rw [e]; exact put_uint8 A0 d0 L0 (kindB xg) U2 SO2.out (by have := LN0.out; omega) (by unfold kindB; split <;> omega))
            generalize hL1 : L0 ++ be 1 (kindB xg) = L1 at *
            have LN1 : Hid (L1.length ≤ 60000001) := Lib.hid (by rw [← hL1, List.length_append, be_len]; have := LN0.out; omega)
            clear hL1
            have cases_g : Hid True := trivial
            cases xg
            all_goals
              go_wp2_with fail
              (with_reducible refine (P1.out _ ?_).mono ?_)
              · rfl
              rintro e w3 ⟨v3, rfl, o3, hb3⟩
              obtain ⟨A3, d3, rfl, s3⟩ := o3.bs
              have B3 := Lib.hid hb3
              have f0 : w3.cell? ⟨wr.heap.size, 0, none⟩ = some (.slice A1 xk.length a1) := (hb3.cell (p := ⟨wr.heap.size, 0, none⟩) GS.out).trans e0
              have f1 : w3.cell? ⟨wr.heap.size, 1, none⟩ = some (.slice B1 xv.length b1) := (hb3.cell (p := ⟨wr.heap.size, 1, none⟩) GS.out).trans e1
              have P2 := Lib.hid (put_uint8 A3 d3 L1 xk.length w3 s3 (by have := LN1.out; omega) (by have := HKL.out; omega))
              generalize hL2 : L1 ++ be 1 xk.length = L2 at *
              have LN2 : Hid (L2.length ≤ 60000002) := Lib.hid (by rw [← hL2, List.length_append, be_len]; have := LN1.out; omega)
              clear hL2 o3 hb3 s3
              go_wp2_with fail
              (with_reducible refine P2.out.mono ?_)
              rintro e w4 ⟨v4, rfl, o4, hb4⟩
              obtain ⟨A4, d4, rfl, s4⟩ := o4.bs
              have B4 := Lib.hid (below_step B3.out hb4)
              have g0 : w4.cell? ⟨wr.heap.size, 0, none⟩ = some (.slice A1 xk.length a1) := (B4.out.cell (p := ⟨wr.heap.size, 0, none⟩) GS.out).trans e0
              have g1 : w4.cell? ⟨wr.heap.size, 1, none⟩ = some (.slice B1 xv.length b1) := (B4.out.cell (p := ⟨wr.heap.size, 1, none⟩) GS.out).trans e1
              have P3 := Lib.hid (put_uint16 A4 d4 L2 xv.length w4 s4 (by have := LN2.out; omega) (by have := HVL.out; omega))
              generalize hL3 : L2 ++ be 2 xv.length = L3 at *
              have LN3 : Hid (L3.length ≤ 60000004) := Lib.hid (by rw [← hL3, List.length_append, be_len]; have := LN2.out; omega)
              clear hL3 o4 hb4 s4
              go_wp2_with fail
              (with_reducible refine P3.out.mono ?_)
              rintro e w5 ⟨v5, rfl, o5, hb5⟩
              obtain ⟨A5, d5, rfl, s5⟩ := o5.bs
              have B5 := Lib.hid (below_step B4.out hb5)
              have O5 := Lib.hid o5
              have Z5 := Lib.hid hb5.size
              have H5 := Lib.hid ((B5.out.block _ GS.out).trans HXU.out)
              have K5 := Lib.hid (K2.out.below B5.out)
              have V5 := Lib.hid (V2.out.below B5.out)
              have j0 : w5.cell? ⟨wr.heap.size, 0, none⟩ = some (.slice A1 xk.length a1) := (B5.out.cell (p := ⟨wr.heap.size, 0, none⟩) GS.out).trans e0
              clear o5 hb5 s5
              go_wp2_with (first
                | (at_builtin; refine push_any (B := w4.heap.size) rfl (.tmp 52) (.tmp 54) rfl (.slice A5 L3.length d5) L3 xk A1 a1 rfl rfl O5.out K5.out Z5.out (by have := LN3.out; have := HKL.out; omega) ?_; intro A6 d6 w6 o6 k6; generalize hL4 : L3 ++ xk = L4 at *; have LN4 : Hid (L4.length ≤ 60000044) := Lib.hid (by rw [← hL4, List.length_append]; have := LN3.out; have := HKL.out; omega); have HB6 : Hid (∀ i, (Value.slice A5 L3.length d5).ownBlock = some i → w4.heap.size ≤ i) := Lib.hid (fun i hi => O5.out.base_le hi); have O6 := Lib.hid o6; have K6 := Lib.hid k6; have V6 := Lib.hid (bs_own V5.out V2.out B4.out.size k6 HB6.out); have l1 : w6.cell? ⟨wr.heap.size, 1, none⟩ = some (.slice B1 xv.length b1) := (blk_cell (k6.blk H5.out (fun e => by have h1 := HB6.out _ e; have h2 := B4.out.size; have h3 := GS.out; omega)) 1).trans rfl; have Z6 : Hid (w4.heap.size ≤ w6.heap.size) := Lib.hid (Nat.le_trans Z5.out k6.size); clear hL4 o6 k6)
                | (at_builtin; refine push_any (B := w4.heap.size) rfl (.tmp 56) (.tmp 58) rfl (.slice A6 L4.length d6) L4 xv B1 b1 rfl rfl O6.out V6.out Z6.out (by have := LN4.out; have := HVL.out; omega) ?_; intro A7 d7 w7 o7 k7; generalize hL5 : L4 ++ xv = L5 at *; have O7 := Lib.hid o7; have K7 := Lib.hid k7; clear o7 k7 hL5))
              have HB7 : Hid (Below w.heap.size w w7) := Lib.hid (below_only (below_only (below_step W2.out B5.out) K6.out (fun i hi => Nat.le_trans W2.out.size (Nat.le_trans B4.out.size (HB6.out i hi)))) K7.out (fun i hi => Nat.le_trans W2.out.size (Nat.le_trans B4.out.size (O6.out.base_le hi))))
              have HO7 : Hid (Own w7 w.heap.size (.slice A7 L5.length d7) ((l.take (k + 1)).flatMap rowB)) := Lib.hid (by rw [HEX.out]; exact O7.out.mono (Nat.le_trans W2.out.size B4.out.size))
              go_roundg (m - (k + 1))
              case measure => omega
              case rel => exact ⟨k + 1, by omega, rfl, by go_num, HOK2, HO7, HB7⟩
          · have HF : Hid (res = ([], 114)) := by
              rw [Hid, ← HR.out, HNO.out (by rw [HOK.out, decide_eq_false hpx]; rfl)]
              rfl
            have hless : Op.bytesLess pk xk = false := by rw [bytesLess_eq]; exact decide_eq_false hpx
            have hless2 : Op.bytesLess (⟨pk.toArray⟩ : ByteArray).toList (⟨xk.toArray⟩ : ByteArray).toList = false := by rw [list_str, list_str]; exact hless
            clear hpx
            refine wp_region_quiet_cls (Since U) (by kernel_rfl) (by kernel_rfl) HG0.out ?_
            repeat (go_big_quiet_step ((go_at_call 47; exact calls_cls Since.step (VM.out _))))
            refine wpQuiet_nil ?_
            intro _ hw'
            obtain ⟨nq, hw''⟩ := hw'
            subst hw''
            have WQ := Lib.hid (below_step W1.out nq.ok)
            go_wp2_with fail
            exact bodyPost_ret (v := .tuple #[.slice none 0 0, .int .i64 114]) (by simp [results, Try.results12, go_sem]) rfl ⟨none, 0, by rw [HF.out]; rfl, by rw [HF.out]; exact Bs.nil _ _ _, WQ.out, Nw.none _⟩
    · obtain rfl : k = m := by omega
      have i1 : ¬ (k : Int) < (k : Int) := by omega
      have HT : Hid (l.take k = l) := Lib.hid (List.take_of_length_le (by rw [HM.out]; omega))
      have HF : Hid (res = (l.flatMap rowB, 0)) := by rw [Hid, ← HR.out, if_pos HA.out]
      go_wp2_with fail
      exact bodyPost_ret (v := .tuple #[.slice A0 ((l.take k).flatMap rowB).length d0, .int .i64 0]) (by simp [results, Try.results12, go_sem]) rfl ⟨A0, d0, by rw [HF.out, HT.out], by rw [HF.out]; have h := SO.out; rw [HT.out] at h; exact h, HW.out, Own.nw (w := w) HO.out (Nat.le_refl _)⟩
end Go.Proofs.Ytnhfeoniiadjfaa.Lst
/- set and gone of the law; lists laid by hand. -/
namespace Go.Proofs.Ytnhfeoniiadjfaa.Lst
open Go.RowKit Go.Proofs.Ytnhfeoniiadjfaa.K Go.Proofs.Ytnhfeoniiadjfaa.Help Go.Proofs.Ytnhfeoniiadjfaa.Pfx Go.Proofs.Ytnhfeoniiadjfaa.Peer
set_option linter.unusedVariables false

theorem lst_of_block {α : Type} {E : Elem α} {w : World} {g : Nat} {t : TypeId} {fr : Nat × Nat} {raws : List (List Value)} {l : List α} (hb : w.heap[g]? = some (.cells raws.flatten.toArray t fr)) (hl : raws.length = l.length) (hm : l.length ≤ 1000000)
    (hR : ∀ (i : Nat) (x : α) (raw : List Value), l[i]? = some x → raws[i]? = some raw → E.R w (fun _ => False) raw x) : Lst E w (fun _ => False) (some ⟨g, 0, none⟩) l.length l := by
  refine ⟨Nat.le_refl _, by omega, fun i x hx => ?_⟩
  have hi : i < raws.length := by rw [hl]; exact (List.getElem?_eq_some_iff.1 hx).1
  have hr := hR i x raws[i] hx (List.getElem?_eq_getElem hi)
  have hsz : ∀ r, r ∈ raws → r.length = E.sz := fun r hr => by
    obtain ⟨j, hj, rfl⟩ := List.mem_iff_getElem.1 hr
    exact E.len (hR j (l[j]'(by omega)) raws[j] (List.getElem?_eq_getElem _) (List.getElem?_eq_getElem hj))
  refine ⟨g, 0, raws[i], rfl, blk_lt hb, fun h => h, fun j hj => ?_, hr⟩
  rw [blk_cell hb, Nat.zero_add, List.getElem?_toArray]
  exact flat_at hsz i j raws[i] (List.getElem?_eq_getElem hi) hj
def RetSet (w : World) (s : SetD) (e : Ending) (w' : World) : Prop := ∃ A a B b, e = .returned (.agg #[.slice A s.1.length a, .slice B s.2.1.length b, .bool s.2.2]) ∧ Bs w' A a s.1 ∧ Bs w' B b s.2.1 ∧ Below w.heap.size w w'
set_option maxRecDepth 100000 in
set_option maxHeartbeats 1000000 in
theorem set_any (k v : List UInt8) (w : World) (hk : k.length ≤ 1000) (hv : v.length ≤ 1000) : Calls Try.prog 42 #[.string ⟨k.toArray⟩, .string ⟨v.toArray⟩] w (RetSet w (k, v, false)) := by
  obtain ⟨c1, w1, hc1, s1, b1⟩ := bytes_of (w.alloc (.cells #[.slice none 0 0, .slice none 0 0, .bool false] 37)) k (by omega)
  obtain ⟨c2, w2, hc2, s2, b2⟩ := bytes_of w1 v (by omega)
  have b0 := below_alloc (Below.refl w.heap.size w) (.cells #[.slice none 0 0, .slice none 0 0, .bool false] 37)
  have hx := blk_new w (.cells #[.slice none 0 0, .slice none 0 0, .bool false] 37)
  have hx2 := (below_step b1 b2).block _ (show w.heap.size < (w.alloc (.cells #[.slice none 0 0, .slice none 0 0, .bool false] 37)).heap.size by simp)
  have hx3 := hx2.trans hx
  have S1 := Lib.hid (s1.below b2)
  have S2 := Lib.hid s2
  have B2 := Lib.hid (below_step b0 (below_step b1 b2))
  have e0 := (blk_cell hx3 0).trans (b := some (Value.slice none 0 0)) rfl
  have e1 := (blk_cell hx3 1).trans (b := some (Value.slice none 0 0)) rfl
  have e2 := (blk_cell hx3 2).trans (b := some (Value.bool false)) rfl
  have z0 := blk_free hx3 0
  have z1 := blk_free hx3 1
  have z2 := blk_free hx3 2
  have HX := Lib.hid hx3
  clear hx hx2 hx3 b0 b1 b2 s1 s2 hk hv
  go_enter Try.func42, Try.ntmps42
  go_wp2_with fail
  have hno : NoU8 w2 w.heap.size := by
    intro j y e
    rw [blk_cell HX.out j] at e
    match j with
    | 0 => cases e
    | 1 => cases e
    | 2 => cases e
    | j + 3 => simp at e
  obtain ⟨va, hva⟩ : ∃ va, Value.slice (some ⟨w.heap.size + 1, 0, none⟩) k.length c1 = va := ⟨_, rfl⟩
  obtain ⟨vb, hvb⟩ : ∃ vb, Value.slice (some ⟨w1.heap.size, 0, none⟩) v.length c2 = vb := ⟨_, rfl⟩
  have k9 : Only w2 (((w2.setCell ⟨w.heap.size, 0, none⟩ va).setCell ⟨w.heap.size, 1, none⟩ vb).setCell ⟨w.heap.size, 2, none⟩ (.bool false)) (fun i => i = w.heap.size) := (((Only.refl w2 (fun i => i = w.heap.size)).setCell (p := ⟨w.heap.size, 0, none⟩) (.inl rfl) va).setCell (p := ⟨w.heap.size, 1, none⟩) (.inl rfl) vb).setCell (p := ⟨w.heap.size, 2, none⟩) (.inl rfl) (.bool false)
  have h9 := blk_set (blk_set (blk_set HX.out 0 va) 1 vb) 2 (.bool false)
  have S19 := bs_only S1.out k9 (fun i hi _ => by rw [hi]; exact hno)
  have S29 := bs_only S2.out k9 (fun i hi _ => by rw [hi]; exact hno)
  have B9 := below_only B2.out k9 (fun i hi => by omega)
  have y0 := (blk_cell h9 0).trans (b := some va) rfl
  have y1 := (blk_cell h9 1).trans (b := some vb) rfl
  have y2 := (blk_cell h9 2).trans (b := some (Value.bool false)) rfl
  rw [hva, hvb]
  generalize ((w2.setCell ⟨w.heap.size, 0, none⟩ va).setCell ⟨w.heap.size, 1, none⟩ vb).setCell ⟨w.heap.size, 2, none⟩ (.bool false) = W9 at *
  clear k9 h9 e0 e1 e2 z0 z1 z2 HX hno hc1 hc2
  refine bodyPost_ret (v := .agg #[va, vb, .bool false]) (by simp [results, Try.results42, go_sem, y0, y1, y2]) rfl ?_
  subst hva hvb
  rw [show (w.alloc (.cells #[.slice none 0 0, .slice none 0 0, .bool false] 37)).heap.size = w.heap.size + 1 by simp] at S19
  exact ⟨_, c1, _, c2, rfl, S19, S29, B9⟩
set_option maxRecDepth 100000 in
set_option maxHeartbeats 1000000 in
theorem gone_any (k : List UInt8) (w : World) (hk : k.length ≤ 1000) : Calls Try.prog 43 #[.string ⟨k.toArray⟩] w (RetSet w (k, [], true)) := by
  obtain ⟨c1, w2, hc1, s1, b1⟩ := bytes_of (w.alloc (.cells #[.slice none 0 0, .slice none 0 0, .bool false] 37)) k (by omega)
  have b0 := below_alloc (Below.refl w.heap.size w) (.cells #[.slice none 0 0, .slice none 0 0, .bool false] 37)
  have hx := blk_new w (.cells #[.slice none 0 0, .slice none 0 0, .bool false] 37)
  have hx2 := b1.block _ (show w.heap.size < (w.alloc (.cells #[.slice none 0 0, .slice none 0 0, .bool false] 37)).heap.size by simp)
  have hx3 := hx2.trans hx
  have S1 := Lib.hid s1
  have B2 := Lib.hid (below_step b0 b1)
  have e0 := (blk_cell hx3 0).trans (b := some (Value.slice none 0 0)) rfl
  have e1 := (blk_cell hx3 1).trans (b := some (Value.slice none 0 0)) rfl
  have e2 := (blk_cell hx3 2).trans (b := some (Value.bool false)) rfl
  have z0 := blk_free hx3 0
  have z1 := blk_free hx3 1
  have z2 := blk_free hx3 2
  have HX := Lib.hid hx3
  clear hx hx2 hx3 b0 b1 s1 hk
  go_enter Try.func43, Try.ntmps43
  go_wp2_with fail
  have hno : NoU8 w2 w.heap.size := by
    intro j y e
    rw [blk_cell HX.out j] at e
    match j with
    | 0 => cases e
    | 1 => cases e
    | 2 => cases e
    | j + 3 => simp at e
  obtain ⟨va, hva⟩ : ∃ va, Value.slice (some ⟨w.heap.size + 1, 0, none⟩) k.length c1 = va := ⟨_, rfl⟩
  have k9 : Only w2 (((w2.setCell ⟨w.heap.size, 0, none⟩ va).setCell ⟨w.heap.size, 1, none⟩ (.slice none 0 0)).setCell ⟨w.heap.size, 2, none⟩ (.bool true)) (fun i => i = w.heap.size) := (((Only.refl w2 (fun i => i = w.heap.size)).setCell (p := ⟨w.heap.size, 0, none⟩) (.inl rfl) va).setCell (p := ⟨w.heap.size, 1, none⟩) (.inl rfl) (.slice none 0 0)).setCell (p := ⟨w.heap.size, 2, none⟩) (.inl rfl) (.bool true)
  have h9 := blk_set (blk_set (blk_set HX.out 0 va) 1 (.slice none 0 0)) 2 (.bool true)
  have S19 := bs_only S1.out k9 (fun i hi _ => by rw [hi]; exact hno)
  have B9 := below_only B2.out k9 (fun i hi => by omega)
  have y0 := (blk_cell h9 0).trans (b := some va) rfl
  have y1 := (blk_cell h9 1).trans (b := some (Value.slice none 0 0)) rfl
  have y2 := (blk_cell h9 2).trans (b := some (Value.bool true)) rfl
  rw [hva]
  generalize ((w2.setCell ⟨w.heap.size, 0, none⟩ va).setCell ⟨w.heap.size, 1, none⟩ (.slice none 0 0)).setCell ⟨w.heap.size, 2, none⟩ (.bool true) = W9 at *
  clear k9 h9 e0 e1 e2 z0 z1 z2 HX hno hc1
  refine bodyPost_ret (v := .agg #[va, .slice none 0 0, .bool true]) (by simp [results, Try.results43, go_sem, y0, y1, y2]) rfl ?_
  subst hva
  rw [show (w.alloc (.cells #[.slice none 0 0, .slice none 0 0, .bool false] 37)).heap.size = w.heap.size + 1 by simp] at S19
  exact ⟨_, c1, none, 0, rfl, S19, Bs.nil _ _ _, B9⟩
end Go.Proofs.Ytnhfeoniiadjfaa.Lst
/- SameRows; num. -/
namespace Go.Proofs.Ytnhfeoniiadjfaa.Lst
open Go.RowKit Go.Proofs.Ytnhfeoniiadjfaa.K Go.Proofs.Ytnhfeoniiadjfaa.Help Go.Proofs.Ytnhfeoniiadjfaa.Pfx Go.Proofs.Ytnhfeoniiadjfaa.Peer
set_option linter.unusedVariables false

theorem num13_any (x : Int) (w : World) : Calls Try.prog 16 #[.int .i64 x] w fun e w' => e = .returned (.int .i64 x) ∧ w = w' := by
  go_enter Try.func16, Try.ntmps16
  go_wp2_with fail
  go_ret
  exact ⟨rfl, rfl⟩
theorem eq_getD {l m : List RowD} (hn : l.length = m.length) : l = m ↔ ∀ i, i < l.length → l.getD i zR = m.getD i zR := by
  constructor
  · rintro rfl i _; rfl
  · intro h
    apply List.ext_getElem hn
    intro i h1 h2
    have := h i h1
    simpa [h1, h2] using this
theorem row_eq (x y : RowD) : (decide (x.1 = y.1) && decide (x.2 = y.2)) = decide (x = y) := by
  rw [Bool.eq_iff_iff, Bool.and_eq_true, decide_eq_true_eq, decide_eq_true_eq, decide_eq_true_eq]
  exact ⟨fun h => Prod.ext h.1 h.2, fun h => by rw [h]; exact ⟨rfl, rfl⟩⟩
set_option maxRecDepth 100000 in
set_option maxHeartbeats 2000000 in
theorem sameRows_any (A B : Option Addr) (a b : Nat) (l m : List RowD) (w : World) (hp : Lst RowE w (fun _ => False) A a l) (hq : Lst RowE w (fun _ => False) B b m) :
    Calls Try.prog 34 #[.slice A l.length a, .slice B m.length b] w (Pure w (.bool (decide (l = m)))) := by
  have HP := Lib.hid hp
  have HQ := Lib.hid hq
  have h1 := hp.le
  have h2 := hp.max
  have h3 := hq.le
  have h4 := hq.max
  clear hp hq
  generalize hr : decide (l = m) = res
  have HR := Lib.hid hr
  clear hr
  by_cases hlm : l.length = m.length
  · have HEQ := Lib.hid (eq_getD hlm)
    rw [← hlm] at h3 ⊢
    generalize hn : l.length = n at *
    have HN := Lib.hid hn
    have HM := Lib.hid hlm.symm
    clear hn hlm
    go_enter Try.func34, Try.ntmps34
    go_wp2_with fail
    go_loopg [5] n (fun gk i wr => ∃ p : Nat, p ≤ n ∧ gk = n - p ∧ i = .int .i64 (p : Int) ∧ Hid (∀ i, i < p → l.getD i zR = m.getD i zR) ∧ Below w.heap.size w wr)
    case atStart => exact ⟨0, by omega, rfl, rfl, fun i h => by omega, Below.refl _ _⟩
    case round =>
      obtain ⟨p, hp, rfl, rfl, HI, hb⟩ := hrel
      have HW := Lib.hid hb
      have HG0 := Lib.hid (Since.drew hb)
      clear hb
      by_cases hlt : p < n
      · have i1 : (p : Int) < (n : Int) := by omega
        have i0 : (0 : Int) ≤ (p : Int) := by omega
        obtain ⟨bk, off, A1, a1, B1, b1, rfl, hbk, c0, c1, s1, s2⟩ := HP.out.row p _ (getD_get zR (by rw [HN.out]; exact hlt))
        obtain ⟨ck, cff, A2, a2, B2, b2, rfl, hck, d0, d1, u1, u2⟩ := HQ.out.row p _ (getD_get zR (by rw [HM.out]; exact hlt))
        have y0 := Since.cell c0 hbk
        have z0 := Since.cell d0 hck
        have y1 := Since.cell c1 hbk
        have z1 := Since.cell d1 hck
        have V := Lib.hid (fun p : Cls (Since w) => sameRow A1 B1 A2 B2 a1 b1 a2 b2 _ _ _ _ p.W (s1.1.below p.ok) (s2.1.below p.ok) (u1.1.below p.ok) (u2.1.below p.ok))
        rw [row_eq] at V
        have HT : Hid (decide (l.getD p zR = m.getD p zR) = true → ∀ i, i < p + 1 → l.getD i zR = m.getD i zR) := Lib.hid (fun ht i hi => by
          rcases Nat.lt_or_ge i p with h | h
          · exact HI.out i h
          · have : i = p := by omega
            subst this; exact of_decide_eq_true ht)
        have HF : Hid (decide (l.getD p zR = m.getD p zR) = false → res = false) := Lib.hid (fun hf => by
          rw [← HR.out]
          exact decide_eq_false (fun h => by rw [h] at hf; simp at hf))
        clear c0 c1 d0 d1 s1 s2 u1 u2 hbk hck
        generalize decide (l.getD p zR = m.getD p zR) = t at *
        generalize (l.getD p zR).1.length = q1 at *
        generalize (l.getD p zR).2.length = q2 at *
        generalize (m.getD p zR).1.length = q3 at *
        generalize (m.getD p zR).2.length = q4 at *
        go_wp2_with fail
        refine wp_region_quiet_cls (Since w) (by kernel_rfl) (by kernel_rfl) HG0.out ?_
        repeat (go_big_quiet_step ((go_at_call 65; exact calls_cls Since.step (V.out _))))
        refine wpQuiet_nil ?_
        intro _ hw'
        obtain ⟨nq, hw''⟩ := hw'
        subst hw''
        have Q := Lib.hid (show Below w.heap.size w nq.W from nq.ok)
        cases t
        · have HE : Hid (res = false) := Lib.hid (HF.out (by first | rfl | trivial))
          go_wp2_with fail
          go_ret
          exact ⟨ret_bool HE.out.symm, Q.out⟩
        · have HT2 := Lib.hid (HT.out (by first | rfl | trivial))
          go_wp2_with fail
          go_roundg (n - (p + 1))
          case measure => omega
          case rel => exact ⟨p + 1, by omega, rfl, by go_num, HT2, Q.out⟩
      · obtain rfl : p = n := by omega
        have i1 : ¬ (p : Int) < (p : Int) := by omega
        have HE : Hid (res = true) := Lib.hid (by rw [← HR.out]; exact decide_eq_true (HEQ.out.2 HI.out))
        go_wp2_with fail
        go_ret
        exact ⟨ret_bool HE.out.symm, HW.out⟩
  · have HE : Hid (res = false) := Lib.hid (by rw [← HR.out]; exact decide_eq_false (fun h => hlm (by rw [h])))
    have hb : ((l.length : Int) != (m.length : Int)) = true := by simp; omega
    generalize l.length = n at *
    generalize m.length = q at *
    go_enter Try.func34, Try.ntmps34
    go_wp2_with fail
    go_ret
    exact ⟨ret_bool HE.out.symm, Below.refl _ _⟩
end Go.Proofs.Ytnhfeoniiadjfaa.Lst
/- The document's May. -/
namespace Go.Proofs.Ytnhfeoniiadjfaa.Lst
open Go.RowKit Go.Proofs.Ytnhfeoniiadjfaa.K Go.Proofs.Ytnhfeoniiadjfaa.Help Go.Proofs.Ytnhfeoniiadjfaa.Pfx Go.Proofs.Ytnhfeoniiadjfaa.Peer
set_option linter.unusedVariables false

set_option maxRecDepth 100000 in
set_option maxHeartbeats 1000000 in
theorem refMay_any (A B : Option Addr) (nk a nv b : Nat) (g : Bool) (w : World) :
    Calls Try.prog 50 #[.agg #[.slice A nk a, .slice B nv b, .bool g]] w (Pure w (.bool (mayN nk nv g))) := by
  have HB := Lib.hid (below_alloc (Below.refl w.heap.size w) (.cells #[.slice A nk a, .slice B nv b, .bool g] 37))
  have hx := blk_new w (.cells #[.slice A nk a, .slice B nv b, .bool g] 37)
  have x0 := (blk_cell hx 0).trans (b := some (Value.slice A nk a)) rfl
  have x1 := (blk_cell hx 1).trans (b := some (Value.slice B nv b)) rfl
  have x2 := (blk_cell hx 2).trans (b := some (Value.bool g)) rfl
  clear hx
  have fin : ∀ r : Bool, mayN nk nv g = r → Hid (Pure w (.bool (mayN nk nv g)) (.returned (.bool r)) (w.alloc (.cells #[.slice A nk a, .slice B nv b, .bool g] 37))) := fun r e => by rw [e]; exact ⟨rfl, HB.out⟩
  have FT := Lib.hid (fun h : mayN nk nv g = true => (fin true h).out)
  have FF := Lib.hid (fun h : mayN nk nv g = false => (fin false h).out)
  clear fin
  by_cases h1 : 1 ≤ nk
  · have n1 : decide ((1 : Int) ≤ (nk : Int)) = true := by rw [decide_eq_true_eq]; omega
    have n1' : decide ((nk : Int) < 1) = false := by rw [decide_eq_false_iff_not]; omega
    by_cases h2 : nk ≤ 40
    · have n2 : decide ((40 : Int) < (nk : Int)) = false := by rw [decide_eq_false_iff_not]; omega
      have n2' : decide (40 < nk) = false := by rw [decide_eq_false_iff_not]; omega
      by_cases h3 : nv ≤ 480
      · have n3 : decide ((480 : Int) < (nv : Int)) = false := by rw [decide_eq_false_iff_not]; omega
        have n3' : decide (480 < nv) = false := by rw [decide_eq_false_iff_not]; omega
        rcases Nat.eq_zero_or_pos nv with h0 | h0
        · subst h0
          have R := Lib.hid (FT.out (mayN_true (.inr rfl) h1 h2 h3))
          clear FT FF h1 h2 h3
          cases g
          all_goals
            go_enter Try.func50, Try.ntmps50
            go_wp2_with fail
            go_ret
            exact R.out
        · have m0 : ((nv : Int) == 0) = false := by rw [beq_eq_false_iff_ne]; omega
          have m1 : decide (nv = 0) = false := by rw [decide_eq_false_iff_not]; omega
          cases g
          · have R := Lib.hid (FT.out (mayN_true (.inl rfl) h1 h2 h3))
            clear FT FF h1 h2 h3
            go_enter Try.func50, Try.ntmps50
            go_wp2_with fail
            go_ret
            exact R.out
          · have R := Lib.hid (FF.out (mayN_false (.inl ⟨rfl, h0⟩)))
            clear FT FF h1 h2 h3
            go_enter Try.func50, Try.ntmps50
            go_wp2_with fail
            go_ret
            exact R.out
      · have n3 : decide ((480 : Int) < (nv : Int)) = true := by rw [decide_eq_true_eq]; omega
        have n3' : decide (480 < nv) = true := by rw [decide_eq_true_eq]; omega
        have R := Lib.hid (FF.out (mayN_false (.inr (by omega))))
        clear FT FF h1 h2 h3
        go_enter Try.func50, Try.ntmps50
        go_wp2_with fail
        go_ret
        exact R.out
    · have n2 : decide ((40 : Int) < (nk : Int)) = true := by rw [decide_eq_true_eq]; omega
      have n2' : decide (40 < nk) = true := by rw [decide_eq_true_eq]; omega
      have R := Lib.hid (FF.out (mayN_false (.inr (by omega))))
      clear FT FF h1 h2
      go_enter Try.func50, Try.ntmps50
      go_wp2_with fail
      go_ret
      exact R.out
  · obtain rfl : nk = 0 := by omega
    have R := Lib.hid (FF.out (mayN_false (.inr (by omega))))
    clear FT FF h1
    go_enter Try.func50, Try.ntmps50
    go_wp2_with fail
    go_ret
    exact R.out
end Go.Proofs.Ytnhfeoniiadjfaa.Lst
/- short; the document's May. -/
namespace Go.Proofs.Ytnhfeoniiadjfaa.Lst
open Go.RowKit Go.Proofs.Ytnhfeoniiadjfaa.K Go.Proofs.Ytnhfeoniiadjfaa.Help Go.Proofs.Ytnhfeoniiadjfaa.Pfx Go.Proofs.Ytnhfeoniiadjfaa.Peer
set_option linter.unusedVariables false

def shortAt (l : List SetD) (k : Nat) : Prop := (l.getD k zeroSet).1.length ≤ 2000 ∧ (l.getD k zeroSet).2.1.length ≤ 2000
instance (l : List SetD) (k : Nat) : Decidable (shortAt l k) := inferInstanceAs (Decidable (_ ∧ _))
def shortB (l : List SetD) : Bool := decide (l.length ≤ 2000) && decide (∀ k, k < l.length → shortAt l k)
set_option maxRecDepth 100000 in
set_option maxHeartbeats 2000000 in
theorem short_any (A : Option Addr) (a : Nat) (l : List SetD) (w : World) (hs : Lst SetE w (fun _ => False) A a l) :
    Calls Try.prog 10 #[.slice A l.length a] w (Pure w (.bool (shortB l))) := by
  have HS := Lib.hid hs
  have h1 := hs.le
  have h2 := hs.max
  clear hs
  generalize hr : shortB l = res
  have HR := Lib.hid hr
  clear hr
  unfold shortB at HR
  generalize hn : l.length = n at *
  have HN := Lib.hid hn
  clear hn
  by_cases hlong : n ≤ 2000
  · have l1 : (n : Int) ≤ 2000 := by omega
    rw [decide_eq_true hlong, Bool.true_and] at HR
    go_enter Try.func10, Try.ntmps10
    go_wp2_with fail
    go_loopg [3] n (fun gk i wr => ∃ p : Nat, p ≤ n ∧ gk = n - p ∧ i = .int .i64 (p : Int) ∧ Hid (∀ i, i < p → shortAt l i) ∧ Below w.heap.size w wr)
    case atStart => exact ⟨0, by omega, rfl, rfl, fun i h => by omega, Below.refl _ _⟩
    case round =>
      obtain ⟨p, hp, rfl, rfl, HI, hb⟩ := hrel
      have HW := Lib.hid hb
      clear hb
      by_cases hlt : p < n
      · have i1 : (p : Int) < (n : Int) := by omega
        have i0 : (0 : Int) ≤ (p : Int) := by omega
        obtain ⟨bk, off, A1, a1, B1, b1, eA, hbk, c0, c1, c2, s1, s2⟩ := HS.out.set p _ (getD_get zeroSet (by rw [HN.out]; exact hlt))
        have y0 := (HW.out.cell (p := ⟨bk, _, none⟩) hbk).trans c0
        have y1 := (HW.out.cell (p := ⟨bk, _, none⟩) hbk).trans c1
        subst eA
        clear c0 c1 c2 s1 s2
        have HA : Hid (((l.getD p zeroSet).1.length ≤ 2000 ∧ (l.getD p zeroSet).2.1.length ≤ 2000) ↔ shortAt l p) := Lib.hid Iff.rfl
        generalize (l.getD p zeroSet).1.length = nk at *
        generalize (l.getD p zeroSet).2.1.length = nv at *
        have HNO : Hid (¬ (nk ≤ 2000 ∧ nv ≤ 2000) → res = false) := Lib.hid (fun h => by
          rw [← HR.out, decide_eq_false_iff_not]
          exact fun h3 => h (HA.out.2 (h3 p hlt)))
        by_cases hk : nk ≤ 2000
        · have k1 : decide ((nk : Int) ≤ 2000) = true := by rw [decide_eq_true_eq]; omega
          by_cases hv : nv ≤ 2000
          · have v1 : (nv : Int) ≤ 2000 := by omega
            have HI2 : Hid (∀ i, i < p + 1 → shortAt l i) := Lib.hid (fun i hi => by
              rcases Nat.lt_or_ge i p with h | h
              · exact HI.out i h
              · have : i = p := by omega
                subst this
                exact HA.out.1 ⟨hk, hv⟩)
            clear HNO
            go_wp2_with fail
            go_roundg (n - (p + 1))
            case measure => omega
            case rel => exact ⟨p + 1, by omega, rfl, by go_num, HI2, HW.out⟩
          · have v1 : ¬ (nv : Int) ≤ 2000 := by omega
            have HF := Lib.hid (HNO.out (fun h => hv h.2))
            clear HNO
            go_wp2_with fail
            exact bodyPost_ret (v := .bool false) (by simp [results, Try.results10, go_sem]) rfl ⟨by rw [HF.out], HW.out⟩
        · have k1 : decide ((nk : Int) ≤ 2000) = false := by rw [decide_eq_false_iff_not]; omega
          have HF := Lib.hid (HNO.out (fun h => hk h.1))
          clear HNO
          go_wp2_with fail
          exact bodyPost_ret (v := .bool false) (by simp [results, Try.results10, go_sem]) rfl ⟨by rw [HF.out], HW.out⟩
      · obtain rfl : p = n := by omega
        have i1 : ¬ (p : Int) < (p : Int) := by omega
        have HF : Hid (res = true) := by
          rw [Hid, ← HR.out, decide_eq_true_eq]
          exact HI.out
        go_wp2_with fail
        exact bodyPost_ret (v := .bool true) (by simp [results, Try.results10, go_sem]) rfl ⟨by rw [HF.out], HW.out⟩
  · have l1 : ¬ (n : Int) ≤ 2000 := by omega
    have HF : Hid (res = false) := by
      rw [Hid, ← HR.out, decide_eq_false hlong]
      rfl
    have HW := Lib.hid (Below.refl w.heap.size w)
    go_enter Try.func10, Try.ntmps10
    go_wp2_with fail
    exact bodyPost_ret (v := .bool false) (by simp [results, Try.results10, go_sem]) rfl ⟨by rw [HF.out], HW.out⟩
end Go.Proofs.Ytnhfeoniiadjfaa.Lst
/- The document's number. -/
namespace Go.Proofs.Ytnhfeoniiadjfaa.Lst
open Go.RowKit Go.Proofs.Ytnhfeoniiadjfaa.K Go.Proofs.Ytnhfeoniiadjfaa.Help Go.Proofs.Ytnhfeoniiadjfaa.Pfx Go.Proofs.Ytnhfeoniiadjfaa.Peer
set_option linter.unusedVariables false

/-- an append's answer: the list is longer, all of a base on is new -/
def RetA2 (B : Nat) (W0 w : World) (l : List UInt8) (e : Ending) (w' : World) : Prop := ∃ A c, e = .returned (.slice A l.length c) ∧ Own w' B (.slice A l.length c) l ∧ Below B W0 w'
set_option maxRecDepth 100000 in
set_option maxHeartbeats 1000000 in
theorem number13 (A : Option Addr) (c : Nat) (L : List UInt8) (x n B : Nat) (W0 w : World) (ho : Own w B (.slice A L.length c) L) (hb : Below B W0 w) (hs : B ≤ W0.heap.size)
    (hn : n ≤ 2) (hx : x ≤ 100000) (hL : L.length ≤ 100000000) :
    Calls Try.prog 75 #[.slice A L.length c, .int .i64 (x : Int), .int .i64 (n : Int)] w (RetA2 B W0 w (L ++ be n x)) := by
  have HO := Lib.hid ho
  have HB := Lib.hid hb
  have HS := Lib.hid hs
  have HL := Lib.hid hL
  have hnw : IntKind.i64.wrap ((n : Int) - 1) = (n : Int) - 1 := IntWalk.i64_in _ (by omega)
  generalize hll : L.length = ln at *
  have HLL := Lib.hid hll
  clear ho hb hs hL hll
  go_enter Try.func75, Try.ntmps75
  go_wp2_with fail
  go_loopg [0, 7] n (fun gk v i wr => ∃ j : Nat, j ≤ n ∧ gk = n - j ∧ i = .int .i64 ((n : Int) - 1 - j) ∧ Hid (Own wr B v (L ++ (be n x).take j)) ∧ Hid (Below B W0 wr))
  case atStart => exact ⟨0, by omega, rfl, by simp, by simpa using HO, HB⟩
  case round =>
    obtain ⟨j, hj, rfl, rfl, HO, HB⟩ := hrel
    obtain ⟨VA, vc, rfl, _⟩ := HO.out.bs
    have hbl := be_len n x
    have hlk : (L ++ (be n x).take j).length = ln + j := by rw [List.length_append, HLL.out, List.length_take]; omega
    rw [hlk] at HO ⊢
    have HK := Lib.hid hlk
    by_cases hlt : j < n
    · obtain ⟨m, hm⟩ : ∃ m : Nat, n - 1 - j = m := ⟨_, rfl⟩
      have hmi : (n : Int) - 1 - j = m := by omega
      have hm8 : m ≤ 1 := by omega
      have HX := Lib.hid (take_snoc8 (l := be n x) (i := j) (by omega))
      have HG := Lib.hid (be_get n x j hlt)
      have hw := kind8 x m
      rw [hm] at HG
      have HMI := Lib.hid hmi
      rw [hmi]
      clear hlk hbl hm hmi hnw
      have hm1 : IntKind.i64.wrap (8 * (m : Int)) = 8 * (m : Int) := IntWalk.i64_in _ (by omega)
      have hm2 : IntKind.i64.wrap ((m : Int) - 1) = (m : Int) - 1 := IntWalk.i64_in _ (by omega)
      have hm3 : (0 : Int) ≤ 8 * (m : Int) := by omega
      have hm4 : ¬ (8 * (m : Int)) < 0 := by omega
      generalize UInt8.ofNat (x / 2 ^ (8 * m)) = y at *
      go_wp2_with (at_builtin; refine Help.push_at (W0 := W0) (B := B) rfl (.tmp 14) (.tmp 20) rfl (.slice VA (ln + j) vc) (L ++ (be n x).take j) y rfl rfl HO.out HB.out (Nat.le_trans HS.out HB.out.size) (by rw [HK.out]; have := HL.out; omega) ?_; intro A1 c1 w1 hO1 hB1; rw [HK.out] at hO1 ⊢; have HO1 := Lib.hid hO1; have HB1 := Lib.hid hB1; clear hO1 hB1)
      go_roundg (n - (j + 1))
      case measure => omega
      case rel =>
        refine ⟨j + 1, by omega, rfl, ?_, ?_, HB1⟩
        · have := HMI.out; congr 1; omega
        · have h := HO1.out
          have e := HK.out
          rw [Hid, HX.out, HG.out, ← List.append_assoc]
          exact h
    · obtain rfl : j = n := by omega
      have hneg : (j : Int) - 1 - j = -1 := by omega
      rw [hneg]
      have hlast : (be j x).take j = be j x := List.take_of_length_le (by omega)
      rw [hlast] at HO HK
      clear hbl hlast
      have HK2 := Lib.hid hlk
      clear hlk
      go_wp2_with fail
      go_ret
      exact ⟨VA, vc, by rw [HK.out]; rfl, by rw [HK.out]; exact HO.out, HB.out⟩
end Go.Proofs.Ytnhfeoniiadjfaa.Lst
/- The document's row. -/
namespace Go.Proofs.Ytnhfeoniiadjfaa.Lst
open Go.RowKit Go.Proofs.Ytnhfeoniiadjfaa.K Go.Proofs.Ytnhfeoniiadjfaa.Help Go.Proofs.Ytnhfeoniiadjfaa.Pfx Go.Proofs.Ytnhfeoniiadjfaa.Peer
set_option linter.unusedVariables false

set_option maxRecDepth 100000 in
set_option maxHeartbeats 2000000 in
theorem row13 (A : Option Addr) (c : Nat) (L : List UInt8) (A1 B1 : Option Addr) (a1 b1 : Nat) (xk xv : List UInt8) (xg : Bool) (W0 w : World)
    (ho : Own w W0.heap.size (.slice A L.length c) L) (hb : Below W0.heap.size W0 w) (hk : Bs W0 A1 a1 xk) (hv : Bs W0 B1 b1 xv)
    (nk : xk.length ≤ 40) (nv : xv.length ≤ 480) (hL : L.length ≤ 90000000) :
    Calls Try.prog 51 #[.slice A L.length c, .slice A1 xk.length a1, .slice B1 xv.length b1, .bool xg] w (RetA2 W0.heap.size W0 w (L ++ rowB (xk, xv, xg))) := by
  have HO := Lib.hid ho
  have HB := Lib.hid hb
  have HK := Lib.hid hk
  have HV := Lib.hid hv
  have HKL := Lib.hid nk
  have HVL := Lib.hid nv
  have HLL := Lib.hid hL
  have HRW : Hid (L ++ rowB (xk, xv, xg) = ((((L ++ [UInt8.ofNat (kindB xg)]) ++ be 1 xk.length) ++ be 2 xv.length) ++ xk) ++ xv) := Lib.hid (by
    unfold rowB
    have : be 1 (kindB xg) = [UInt8.ofNat (kindB xg)] := by simp [be]
    rw [this]
    simp)
  rw [HRW.out]
  clear ho hb hk hv nk nv hL HRW
  cases xg
  all_goals
    go_enter Try.func51, Try.ntmps51
    go_wp2_with (first
      | (at_builtin; refine Help.push_at (W0 := W0) (B := W0.heap.size) rfl (.tmp 10) (.tmp 11) rfl (.slice A L.length c) L (UInt8.ofNat (kindB true)) rfl rfl HO.out HB.out HB.out.size (by have := HLL.out; omega) ?_; intro A2 c2 w2 o2 hb2; have e2 : L.length + 1 = (L ++ [UInt8.ofNat (kindB true)]).length := by simp)
      | (at_builtin; refine Help.push_at (W0 := W0) (B := W0.heap.size) rfl (.tmp 13) (.tmp 14) rfl (.slice A L.length c) L (UInt8.ofNat (kindB false)) rfl rfl HO.out HB.out HB.out.size (by have := HLL.out; omega) ?_; intro A2 c2 w2 o2 hb2; have e2 : L.length + 1 = (L ++ [UInt8.ofNat (kindB false)]).length := by simp))
    rw [e2] at o2 ⊢
    generalize hL1 : L ++ [UInt8.ofNat (kindB _)] = L1 at *
    have LN1 : Hid (L1.length ≤ 90000001) := Lib.hid (by rw [← hL1, List.length_append, List.length_singleton]; have := HLL.out; omega)
    have P1 : Hid (Calls Try.prog 75 #[.slice A2 L1.length c2, .int .i64 (xk.length : Int), .int .i64 1] w2 (RetA2 W0.heap.size W0 w2 (L1 ++ be 1 xk.length))) := number13 A2 c2 L1 xk.length 1 W0.heap.size W0 w2 o2 hb2 (Nat.le_refl _) (by omega) (by have := HKL.out; omega) (by have := LN1.out; omega)
    clear o2 hb2 e2 hL1 HO HB
    go_wp2_with fail
    (with_reducible refine P1.out.mono ?_)
    rintro e w3 ⟨A3, c3, rfl, o3, hb3⟩
    generalize hL2 : L1 ++ be 1 xk.length = L2 at *
    have LN2 : Hid (L2.length ≤ 90000002) := Lib.hid (by rw [← hL2, List.length_append, be_len]; have := LN1.out; omega)
    have P2 : Hid (Calls Try.prog 75 #[.slice A3 L2.length c3, .int .i64 (xv.length : Int), .int .i64 2] w3 (RetA2 W0.heap.size W0 w3 (L2 ++ be 2 xv.length))) := number13 A3 c3 L2 xv.length 2 W0.heap.size W0 w3 o3 hb3 (Nat.le_refl _) (by omega) (by have := HVL.out; omega) (by have := LN2.out; omega)
    clear o3 hb3 hL2 P1
    go_wp2_with fail
    (with_reducible refine P2.out.mono ?_)
    rintro e w4 ⟨A4, c4, rfl, o4, hb4⟩
    generalize hL3 : L2 ++ be 2 xv.length = L3 at *
    have LN3 : Hid (L3.length ≤ 90000004) := Lib.hid (by rw [← hL3, List.length_append, be_len]; have := LN2.out; omega)
    have O4 := Lib.hid o4
    have B4 := Lib.hid hb4
    have K4 := Lib.hid (HK.out.below hb4)
    clear o4 hb4 hL3 P2
    go_wp2_with (first
      | (at_builtin; refine push_any (B := W0.heap.size) rfl (.tmp 24) (.tmp 25) rfl (.slice A4 L3.length c4) L3 xk A1 a1 rfl rfl O4.out K4.out B4.out.size (by have := LN3.out; have := HKL.out; omega) ?_; intro A5 c5 w5 o5 k5; have O5 := Lib.hid o5; have B5 := Lib.hid (below_only B4.out k5 (fun i hi => O4.out.base_le hi)); have V5 := Lib.hid (HV.out.below B5.out); clear o5 k5; generalize hL4 : L3 ++ xk = L4 at *; have LN4 : Hid (L4.length ≤ 90000044) := Lib.hid (by rw [← hL4, List.length_append]; have := LN3.out; have := HKL.out; omega); clear hL4)
      | (at_builtin; refine push_any (B := W0.heap.size) rfl (.tmp 27) (.tmp 28) rfl (.slice A5 L4.length c5) L4 xv B1 b1 rfl rfl O5.out V5.out B5.out.size (by have := LN4.out; have := HVL.out; omega) ?_; intro A6 c6 w6 o6 k6; have O6 := Lib.hid o6; have B6 := Lib.hid (below_only B5.out k6 (fun i hi => O5.out.base_le hi)); clear o6 k6))
    exact bodyPost_ret (v := .slice A6 (L4 ++ xv).length c6) (by simp [results, Try.results51, go_sem]) rfl ⟨A6, c6, rfl, O6.out, B6.out⟩
end Go.Proofs.Ytnhfeoniiadjfaa.Lst
/- The document's PutSets. -/
namespace Go.Proofs.Ytnhfeoniiadjfaa.Lst
open Go.RowKit Go.Proofs.Ytnhfeoniiadjfaa.K Go.Proofs.Ytnhfeoniiadjfaa.Help Go.Proofs.Ytnhfeoniiadjfaa.Pfx Go.Proofs.Ytnhfeoniiadjfaa.Peer
set_option linter.unusedVariables false

theorem lessB_dec (k m : List UInt8) : lessB k m = decide (k < m) := by
  rw [Bool.eq_iff_iff, lessB_iff, decide_eq_true_eq]
set_option maxRecDepth 100000 in
set_option maxHeartbeats 3000000 in
theorem refPutSets_any (A : Option Addr) (a : Nat) (l : List SetD) (w : World) (hs : Lst SetE w (fun _ => False) A a l) (hm : l.length ≤ 100000) :
    Calls Try.prog 14 #[.slice A l.length a] w (RetPS w (putSetsD l)) := by
  have HS := Lib.hid hs
  have h1 := hs.le
  have h2 := hs.max
  have HML := Lib.hid hm
  clear hs hm
  generalize hr : putSetsD l = res
  have HR := Lib.hid hr
  clear hr
  unfold putSetsD at HR
  generalize hmm : l.length = m at *
  have HM := Lib.hid hmm
  clear hmm
  go_enter Try.func14, Try.ntmps14
  go_wp2_with fail
  go_loopg [5, 4] m (fun gk i s4 wr => ∃ k : Nat, k ≤ m ∧ gk = m - k ∧ i = .int .i64 (k : Int) ∧ Hid (okS l k = true) ∧ Hid (Own wr w.heap.size s4 ((l.take k).flatMap rowB)) ∧ Hid (Below w.heap.size w wr))
  case atStart => exact ⟨0, by omega, rfl, rfl, by simp [Hid, okS], Own.nil _ _, Below.refl _ _⟩
  case round =>
    obtain ⟨k, hk, rfl, rfl, HA, HO, HW⟩ := hrel
    obtain ⟨A0, d0, rfl, _⟩ := HO.out.bs
    by_cases hlt : k < m
    · have i1 : (k : Int) < (m : Int) := by omega
      have i0 : (0 : Int) ≤ (k : Int) := by omega
      have HNO := Lib.hid (okS_no (l := l) (k := k) (n := m) hlt)
      have HYS := Lib.hid (okS_step (l := l) (k := k) HA.out)
      have HFL := Lib.hid (flat_le (l := l) k (by rw [HM.out]; omega) HA.out)
      have HFS := Lib.hid (flat_step l k (by rw [HM.out]; exact hlt))
      obtain ⟨bk, off, A1, a1, B1, b1, eA, hbk, c0, c1, c2, s1, s2⟩ := HS.out.set k _ (getD_get zeroSet (by rw [HM.out]; exact hlt))
      have hok : okAtS l k = (mayB (l.getD k zeroSet) && (decide (k = 0) || decide ((l.getD (k - 1) zeroSet).1 < (l.getD k zeroSet).1))) := rfl
      obtain ⟨⟨xk, xv, xg⟩, hx⟩ : ∃ y, l.getD k zeroSet = y := ⟨_, rfl⟩
      rw [hx] at c0 c1 c2 s1 s2 hok HFS
      dsimp only at c0 c1 c2 s1 s2 hok
      have HBK := Lib.hid hbk
      have hbr : bk < wr.heap.size := Nat.lt_of_lt_of_le hbk HW.out.size
      have y0 : wr.cell? ⟨bk, off + k * 3, none⟩ = some (.slice A1 xk.length a1) := (HW.out.cell (p := ⟨bk, _, none⟩) hbk).trans c0
      have y1 : wr.cell? ⟨bk, off + k * 3 + 1, none⟩ = some (.slice B1 xv.length b1) := (HW.out.cell (p := ⟨bk, _, none⟩) hbk).trans c1
      have y2 : wr.cell? ⟨bk, off + k * 3 + 2, none⟩ = some (.bool xg) := (HW.out.cell (p := ⟨bk, _, none⟩) hbk).trans c2
      have K1 := Lib.hid (s1.1.below HW.out)
      have S1 := Lib.hid s1.1
      have S2 := Lib.hid s2.1
      have HBR := Lib.hid hbr
      rw [show mayB (xk, xv, xg) = mayN xk.length xv.length xg from rfl] at hok
      have HLE := Lib.hid (fun h : mayN xk.length xv.length xg = true => mayB_le (s := (xk, xv, xg)) h)
      have VM := Lib.hid (fun p : Cls (Since wr) => refMay_any A1 B1 xk.length a1 xv.length b1 xg p.W)
      have HOK := Lib.hid hok
      have V0 := Lib.hid c0
      have V1 := Lib.hid c1
      have V2 := Lib.hid c2
      clear c0 c1 c2 s1 s2 hx hok
      generalize hL0 : (l.take k).flatMap rowB = L0 at *
      have HL0 := Lib.hid hL0
      clear hL0
      subst eA
      have x0 := Since.cell y0 hbr
      have x1 := Since.cell y1 hbr
      have x2 := Since.cell y2 hbr
      clear hbr y0 y1 y2
      have HG0 := Lib.hid (Since.drew (Below.refl wr.heap.size wr))
      generalize hmb : mayN xk.length xv.length xg = mb at *
      clear hmb
      have tail : Hid (okS l (k + 1) = true → mb = true → ∀ U2 : World, Below wr.heap.size wr U2 → (∀ q, Calls Try.prog 51 #[.slice A0 L0.length d0, .slice A1 xk.length a1, .slice B1 xv.length b1, .bool xg] (U2.drewN q) (RetA2 w.heap.size w (U2.drewN q) ((l.take (k + 1)).flatMap rowB)))) := Lib.hid (fun h1 h2 U2 hb q => by
        obtain ⟨m1, m2, m3⟩ := HLE.out h2
        rw [HFS.out]
        exact row13 A0 d0 L0 A1 B1 a1 b1 xk xv xg w (U2.drewN q) ((HO.out.below hb).drewN q) (below_drewN (below_step HW.out hb) q) S1.out S2.out m2 m3 (by have := HFL.out; have := HML.out; omega))
      cases mb
      · have HF : Hid (res = ([], 114)) := by
          rw [Hid, ← HR.out, HNO.out (by rw [HOK.out]; rfl)]
          rfl
        go_wp2_with fail
        refine wp_region_quiet_cls (Since wr) (by kernel_rfl) (by kernel_rfl) HG0.out ?_
        repeat (go_big_quiet_step ((go_at_call 50; exact calls_cls Since.step (VM.out _))))
        refine wpQuiet_nil ?_
        intro _ hw'
        obtain ⟨nq, hw''⟩ := hw'
        subst hw''
        have WQ := Lib.hid (below_step HW.out nq.ok)
        go_wp2_with fail
        exact bodyPost_ret (v := .tuple #[.slice none 0 0, .int .i64 114]) (by simp [results, Try.results14, go_sem]) rfl ⟨none, 0, by rw [HF.out]; rfl, by rw [HF.out]; exact Bs.nil _ _ _, WQ.out, Nw.none _⟩
      · rcases Nat.eq_zero_or_pos k with hk0 | hk0
        · have hz1 : decide ((0 : Int) < (k : Int)) = false := by rw [decide_eq_false_iff_not]; omega
          have hz2 : decide (0 < k) = false := by rw [decide_eq_false_iff_not]; omega
          have HOK2 : Hid (okS l (k + 1) = true) := Lib.hid (HYS.out (by rw [HOK.out, decide_eq_true hk0]; rfl))
          clear hk0
          go_wp2_with fail
          refine wp_region_quiet_cls (Since wr) (by kernel_rfl) (by kernel_rfl) HG0.out ?_
          repeat (go_big_quiet_step ((go_at_call 50; exact calls_cls Since.step (VM.out _))))
          refine wpQuiet_nil ?_
          intro _ hw'
          obtain ⟨nq, hw''⟩ := hw'
          subst hw''
          have u0 := x0 nq
          have u1 := x1 nq
          have u2 := x2 nq
          have BU := Lib.hid (show Below wr.heap.size wr nq.W from nq.ok)
          generalize nq.W = U2 at *
          have T1 := Lib.hid (tail.out HOK2.out (by first | rfl | trivial) U2 BU.out)
          have W2 := Lib.hid (below_step HW.out BU.out)
          obtain ⟨Ln, hLn⟩ : ∃ Ln, (l.take (k + 1)).flatMap rowB = Ln := ⟨_, rfl⟩
          rw [hLn] at T1
          have HLn := Lib.hid hLn
          clear hLn
          clear x0 x1 x2 HG0 VM tail
          go_wp2_with fail
          go_region_held3 (fun w' => w'.cell? ⟨bk, off + k * 3, none⟩ = some (.slice A1 xk.length a1) ∧ w'.cell? ⟨bk, off + k * 3 + 1, none⟩ = some (.slice B1 xv.length b1) ∧ w'.cell? ⟨bk, off + k * 3 + 2, none⟩ = some (.bool xg)) (first | go_keep | exact ⟨u0, u1, u2⟩)
            (first
            | (go_at_call 51; refine (T1.out _).mono ?_; rintro e w3 ⟨A3, c3, rfl, o3, hb3⟩; have O3 := Lib.hid o3; have B3 := Lib.hid hb3; have u0 := (hb3.cell (p := ⟨bk, off + k * 3, none⟩) HBK.out).trans V0.out; have u1 := (hb3.cell (p := ⟨bk, off + k * 3 + 1, none⟩) HBK.out).trans V1.out; have u2 := (hb3.cell (p := ⟨bk, off + k * 3 + 2, none⟩) HBK.out).trans V2.out; clear o3 hb3))
          go_wp2_with fail
          go_roundg (m - (k + 1))
          case measure => omega
          case rel => exact ⟨k + 1, by omega, rfl, by go_num, HOK2, by rw [HLn.out]; exact O3, B3⟩
        · have hz1 : (0 : Int) < (k : Int) := by omega
          have hz2 : 0 < k := hk0
          obtain ⟨bk', off', A2, a2, B2, b2, eA', hbk', p0, -, -, q1, -⟩ := HS.out.set (k - 1) _ (getD_get zeroSet (by rw [HM.out]; omega))
          cases eA'
          have hsub : IntKind.i64.wrap ((k : Int) - 1) = (k : Int) - 1 := IntWalk.i64_in _ (by omega)
          have hs0 : (0 : Int) ≤ (k : Int) - 1 := by omega
          have hs1 : (k : Int) - 1 < (m : Int) := by omega
          have hs2 : ((k : Int) - 1).toNat = k - 1 := by omega
          have z0 := Since.cell ((HW.out.cell (p := ⟨bk, _, none⟩) hbk').trans p0) (Nat.lt_of_lt_of_le hbk' HW.out.size)
          have hkk : decide (k = 0) = false := decide_eq_false (by omega)
          rw [hkk, Bool.false_or] at HOK
          have VL := Lib.hid (fun p : Cls (Since wr) => (less_any A2 A1 a2 a1 _ xk p.W ((q1.1.below HW.out).below p.ok) (K1.out.below p.ok)).mono fun _ _ h => quiet_pure h)
          simp only [lessB_dec] at VL
          generalize (l.getD (k - 1) zeroSet).1 = pk at *
          clear hkk hk0 p0 q1 hbk'
          by_cases hpx : pk < xk
          · have HOK2 : Hid (okS l (k + 1) = true) := Lib.hid (HYS.out (by rw [HOK.out, decide_eq_true hpx]; rfl))
            rw [decide_eq_true hpx] at VL
            clear hpx
            go_wp2_with fail
            refine wp_region_quiet_cls (Since wr) (by kernel_rfl) (by kernel_rfl) HG0.out ?_
            repeat (go_big_quiet_step (first | (go_at_call 50; exact calls_cls Since.step (VM.out _)) | (go_at_call 26; exact calls_cls Since.step (VL.out _))))
            clear hsub hs0 hs1 hs2 z0
            refine wpQuiet_nil ?_
            intro _ hw'
            obtain ⟨nq, hw''⟩ := hw'
            subst hw''
            have u0 := x0 nq
            have u1 := x1 nq
            have u2 := x2 nq
            have BU := Lib.hid (show Below wr.heap.size wr nq.W from nq.ok)
            generalize nq.W = U2 at *
            have T1 := Lib.hid (tail.out HOK2.out (by first | rfl | trivial) U2 BU.out)
            have W2 := Lib.hid (below_step HW.out BU.out)
            obtain ⟨Ln, hLn⟩ : ∃ Ln, (l.take (k + 1)).flatMap rowB = Ln := ⟨_, rfl⟩
            rw [hLn] at T1
            have HLn := Lib.hid hLn
            clear hLn
            clear x0 x1 x2 HG0 VM tail
            go_wp2_with fail
            go_region_held3 (fun w' => w'.cell? ⟨bk, off + k * 3, none⟩ = some (.slice A1 xk.length a1) ∧ w'.cell? ⟨bk, off + k * 3 + 1, none⟩ = some (.slice B1 xv.length b1) ∧ w'.cell? ⟨bk, off + k * 3 + 2, none⟩ = some (.bool xg)) (first | go_keep | exact ⟨u0, u1, u2⟩)
              (first
              | (go_at_call 51; refine (T1.out _).mono ?_; rintro e w3 ⟨A3, c3, rfl, o3, hb3⟩; have O3 := Lib.hid o3; have B3 := Lib.hid hb3; have u0 := (hb3.cell (p := ⟨bk, off + k * 3, none⟩) HBK.out).trans V0.out; have u1 := (hb3.cell (p := ⟨bk, off + k * 3 + 1, none⟩) HBK.out).trans V1.out; have u2 := (hb3.cell (p := ⟨bk, off + k * 3 + 2, none⟩) HBK.out).trans V2.out; clear o3 hb3))
            go_wp2_with fail
            go_roundg (m - (k + 1))
            case measure => omega
            case rel => exact ⟨k + 1, by omega, rfl, by go_num, HOK2, by rw [HLn.out]; exact O3, B3⟩
          · have HF : Hid (res = ([], 114)) := by
              rw [Hid, ← HR.out, HNO.out (by rw [HOK.out, decide_eq_false hpx]; rfl)]
              rfl
            rw [decide_eq_false hpx] at VL
            clear hpx
            go_wp2_with fail
            refine wp_region_quiet_cls (Since wr) (by kernel_rfl) (by kernel_rfl) HG0.out ?_
            repeat (go_big_quiet_step (first | (go_at_call 50; exact calls_cls Since.step (VM.out _)) | (go_at_call 26; exact calls_cls Since.step (VL.out _))))
            refine wpQuiet_nil ?_
            intro _ hw'
            obtain ⟨nq, hw''⟩ := hw'
            subst hw''
            have WQ := Lib.hid (below_step HW.out nq.ok)
            go_wp2_with fail
            exact bodyPost_ret (v := .tuple #[.slice none 0 0, .int .i64 114]) (by simp [results, Try.results14, go_sem]) rfl ⟨none, 0, by rw [HF.out]; rfl, by rw [HF.out]; exact Bs.nil _ _ _, WQ.out, Nw.none _⟩
    · obtain rfl : k = m := by omega
      have i1 : ¬ (k : Int) < (k : Int) := by omega
      have HT : Hid (l.take k = l) := Lib.hid (List.take_of_length_le (by rw [HM.out]; omega))
      have HF : Hid (res = (l.flatMap rowB, 0)) := by rw [Hid, ← HR.out, if_pos HA.out]
      rw [HT.out] at HO ⊢
      generalize l.flatMap rowB = L0 at *
      go_wp2_with fail
      exact bodyPost_ret (v := .tuple #[.slice A0 L0.length d0, .int .i64 0]) (by simp [results, Try.results14, go_sem]) rfl ⟨A0, d0, by rw [HF.out], by rw [HF.out]; obtain ⟨A', d', e, h⟩ := HO.out.bs; cases e; exact h, HW.out, Own.nw (w := w) HO.out (Nat.le_refl _)⟩
end Go.Proofs.Ytnhfeoniiadjfaa.Lst
/- first of the laws, its calls up to the first Apply. -/
namespace Go.Proofs.Ytnhfeoniiadjfaa.Lst
open Go.RowKit Go.Proofs.Ytnhfeoniiadjfaa.K Go.Proofs.Ytnhfeoniiadjfaa.Help Go.Proofs.Ytnhfeoniiadjfaa.Pfx Go.Proofs.Ytnhfeoniiadjfaa.Peer
set_option linter.unusedVariables false

def lst5 : List SetD := [([98], [50], false), ([97], [48], false), ([97, 98], [], false), ([97], [49], false), ([122], [], true)]
def lst2 : List SetD := [([99], [51], false), ([], [120], false)]
def rows3 : List RowD := [([97], [49]), ([97, 98], []), ([98], [50])]
example : lst5.all mayB = true := by decide
theorem app5 : appL [] lst5 = rows3 := by decide
theorem may5 : lst5.all mayB = true := by decide
theorem may2 : lst2.all mayB = false := by decide
def sg (A B : Option Addr) (a b : Nat) (s : SetD) : List Value := [.slice A s.1.length a, .slice B s.2.1.length b, .bool s.2.2]
theorem sg_R {w : World} {A B : Option Addr} {a b : Nat} {s : SetD} (h1 : Bs w A a s.1) (h2 : Bs w B b s.2.1) : SetE.R w (fun _ => False) (sg A B a b s) s := ⟨A, a, B, b, rfl, Bs.bsn h1, Bs.bsn h2⟩
/-- five sets laid in a block -/
theorem lay5 {w : World} {g : Nat} {t : TypeId} {fr : Nat × Nat} {s1 s2 s3 s4 s5 : SetD} {r1 r2 r3 r4 r5 : List Value} (hb : w.heap[g]? = some (.cells (r1 ++ r2 ++ r3 ++ r4 ++ r5).toArray t fr))
    (h1 : SetE.R w (fun _ => False) r1 s1) (h2 : SetE.R w (fun _ => False) r2 s2) (h3 : SetE.R w (fun _ => False) r3 s3) (h4 : SetE.R w (fun _ => False) r4 s4) (h5 : SetE.R w (fun _ => False) r5 s5) :
    Lst SetE w (fun _ => False) (some ⟨g, 0, none⟩) 5 [s1, s2, s3, s4, s5] := by
  refine lst_of_block (E := SetE) (l := [s1, s2, s3, s4, s5]) (raws := [r1, r2, r3, r4, r5]) (t := t) (fr := fr) (by rw [hb]; simp) rfl (by simp) ?_
  intro i x raw hx hr
  match i with
  | 0 => simp at hx hr; subst hx hr; exact h1
  | 1 => simp at hx hr; subst hx hr; exact h2
  | 2 => simp at hx hr; subst hx hr; exact h3
  | 3 => simp at hx hr; subst hx hr; exact h4
  | 4 => simp at hx hr; subst hx hr; exact h5
  | i + 5 => simp at hx
theorem lay2 {w : World} {g : Nat} {t : TypeId} {fr : Nat × Nat} {s1 s2 : SetD} {r1 r2 : List Value} (hb : w.heap[g]? = some (.cells (r1 ++ r2).toArray t fr))
    (h1 : SetE.R w (fun _ => False) r1 s1) (h2 : SetE.R w (fun _ => False) r2 s2) :
    Lst SetE w (fun _ => False) (some ⟨g, 0, none⟩) 2 [s1, s2] := by
  refine lst_of_block (E := SetE) (l := [s1, s2]) (raws := [r1, r2]) (t := t) (fr := fr) (by rw [hb]; simp) rfl (by simp) ?_
  intro i x raw hx hr
  match i with
  | 0 => simp at hx hr; subst hx hr; exact h1
  | 1 => simp at hx hr; subst hx hr; exact h2
  | i + 2 => simp at hx
theorem sset (k v : List UInt8) (hk : k.length ≤ 1000) (hv : v.length ≤ 1000) : Hid (∀ w x y, x = k.toArray → y = v.toArray → Calls Try.prog 42 #[.string ⟨x⟩, .string ⟨y⟩] w (RetSet w (k, v, false))) := Lib.hid (fun w x y e1 e2 => by subst e1 e2; exact set_any k v w hk hv)
theorem sgone (k : List UInt8) (hk : k.length ≤ 1000) : Hid (∀ w x, x = k.toArray → Calls Try.prog 43 #[.string ⟨x⟩] w (RetSet w (k, [], true))) := Lib.hid (fun w x e1 => by subst e1; exact gone_any k w hk)
end Go.Proofs.Ytnhfeoniiadjfaa.Lst
/- Literals laid in memory. -/
namespace Go.Proofs.Ytnhfeoniiadjfaa.Lst
open Go.RowKit Go.Proofs.Ytnhfeoniiadjfaa.K Go.Proofs.Ytnhfeoniiadjfaa.Help Go.Proofs.Ytnhfeoniiadjfaa.Pfx Go.Proofs.Ytnhfeoniiadjfaa.Peer
set_option linter.unusedVariables false

theorem conv8 (C : Array Value) (n c g : Nat) (w : World) (hg : g = w.heap.size) : (convert 27 27 (.slice (some ⟨g, 0, none⟩) n c)).run Try.prog (w.alloc (.cells C 5)) = .ok (.slice (some ⟨g, 0, none⟩) n c) (w.alloc (.cells C 5 (C.size, C.size + 1))) :=
  Go.Joins.run_convert_bytes_const_at (P := Try.prog) w 27 5 C n c g hg u_slice8 u_u8
def ob (l : List UInt8) : Obj := .cells (u8s l).toArray 5 (l.length, l.length + 1)
theorem ob_bs {w W : World} {g : Nat} (l : List UInt8) (hl : l.length ≤ 1000) (hb : W.heap[g]? = some (ob l)) : Bs W (some ⟨g, 0, none⟩) l.length l := by
  refine ⟨Nat.le_refl _, by omega, fun i hi => ⟨_, rfl, blk_lt hb, ?_⟩⟩
  unfold ob at hb
  rw [addr_add_plain, blk_cell hb]
  simp [u8s, u8, hi]
theorem blk_at (w : World) (o : Obj) : (w.alloc o).heap[w.heap.size]? = some o := blk_new w o
theorem want2 {w W1 W2 W3 W4 W5 : World} (e1 : W1 = w.alloc (ob [97])) (e2 : W2 = W1.alloc (ob [49])) (e3 : W3 = W2.alloc (ob [97, 98])) (e4 : W4 = W3.alloc (ob [98])) (e5 : W5 = W4.alloc (ob [50])) (U : World)
    (eU : U = W5.alloc (.cells #[.slice (some ⟨w.heap.size, 0, none⟩) 1 1, .slice (some ⟨W1.heap.size, 0, none⟩) 1 1, .slice (some ⟨W2.heap.size, 0, none⟩) 2 2, .slice none 0 0, .slice (some ⟨W3.heap.size, 0, none⟩) 1 1, .slice (some ⟨W4.heap.size, 0, none⟩) 1 1] 54)) :
    Lst RowE U (fun _ => False) (some ⟨W5.heap.size, 0, none⟩) 3 rows3 ∧ Below w.heap.size w U := by
  have h0 : U.heap[w.heap.size]? = some (ob [97]) := by subst eU e5 e4 e3 e2 e1; exact blk_alloc (blk_alloc (blk_alloc (blk_alloc (blk_alloc (blk_at _ _) _) _) _) _) _
  have h1 : U.heap[W1.heap.size]? = some (ob [49]) := by subst eU e5 e4 e3 e2; exact blk_alloc (blk_alloc (blk_alloc (blk_alloc (blk_at _ _) _) _) _) _
  have h2 : U.heap[W2.heap.size]? = some (ob [97, 98]) := by subst eU e5 e4 e3; exact blk_alloc (blk_alloc (blk_alloc (blk_at _ _) _) _) _
  have h3 : U.heap[W3.heap.size]? = some (ob [98]) := by subst eU e5 e4; exact blk_alloc (blk_alloc (blk_at _ _) _) _
  have h4 : U.heap[W4.heap.size]? = some (ob [50]) := by subst eU e5; exact blk_alloc (blk_at _ _) _
  have h5 := blk_at W5 (.cells #[.slice (some ⟨w.heap.size, 0, none⟩) 1 1, .slice (some ⟨W1.heap.size, 0, none⟩) 1 1, .slice (some ⟨W2.heap.size, 0, none⟩) 2 2, .slice none 0 0, .slice (some ⟨W3.heap.size, 0, none⟩) 1 1, .slice (some ⟨W4.heap.size, 0, none⟩) 1 1] 54)
  rw [← eU] at h5
  have s0 := ob_bs (w := w) [97] (by decide) h0
  have s1 := ob_bs (w := w) [49] (by decide) h1
  have s2 := ob_bs (w := w) [97, 98] (by decide) h2
  have s3 := ob_bs (w := w) [98] (by decide) h3
  have s4 := ob_bs (w := w) [50] (by decide) h4
  constructor
  · refine lst_of_block (E := RowE) (l := rows3) (raws := [[.slice (some ⟨w.heap.size, 0, none⟩) 1 1, .slice (some ⟨W1.heap.size, 0, none⟩) 1 1], [.slice (some ⟨W2.heap.size, 0, none⟩) 2 2, .slice none 0 0], [.slice (some ⟨W3.heap.size, 0, none⟩) 1 1, .slice (some ⟨W4.heap.size, 0, none⟩) 1 1]]) (t := 54) (fr := (0, 0)) h5 rfl (by decide) ?_
    intro i x raw hx hr
    match i with
    | 0 => simp [rows3] at hx hr; subst hx hr; exact ⟨_, _, _, _, rfl, Bs.bsn s0, Bs.bsn s1⟩
    | 1 => simp [rows3] at hx hr; subst hx hr; exact ⟨_, _, _, _, rfl, Bs.bsn s2, Bs.bsn (Bs.nil _ _ _)⟩
    | 2 => simp [rows3] at hx hr; subst hx hr; exact ⟨_, _, _, _, rfl, Bs.bsn s3, Bs.bsn s4⟩
    | i + 3 => simp [rows3] at hx
  · subst eU e5 e4 e3 e2 e1
    exact below_alloc (below_alloc (below_alloc (below_alloc (below_alloc (below_alloc (Below.refl _ _) _) _) _) _) _) _
def rowsD : List RowD := [([97, 98], []), ([98], [50])]
def rowsS : List RowD := [([97, 98], []), ([98], [50]), ([99], [51])]
def lstS : List SetD := [([97], [], true), ([99], [51], false)]
theorem del1 : delR rows3 [97] = rowsD := by decide
theorem del2 : delR rowsD [97] = rowsD := by decide
theorem has1 : hasK rows3 [97] = true := by decide
theorem has2 : hasK rowsD [97] = false := by decide
theorem set1 : setR rowsD [99] [51] = rowsS := by decide
theorem may1 : mayB ([99], [51], false) = true := by decide
theorem setsF : setsOf rows3 rowsS = lstS := by decide
theorem putF : putSetsD lstS = ([0, 1, 0, 0, 97, 1, 1, 0, 1, 99, 51], 0) := by decide
end Go.Proofs.Ytnhfeoniiadjfaa.Lst
/- The walk of first. -/
namespace Go.Proofs.Ytnhfeoniiadjfaa.Lst
open Go.RowKit Go.Proofs.Ytnhfeoniiadjfaa.K Go.Proofs.Ytnhfeoniiadjfaa.Help Go.Proofs.Ytnhfeoniiadjfaa.Pfx Go.Proofs.Ytnhfeoniiadjfaa.Peer
set_option linter.unusedVariables false

set_option maxRecDepth 100000 in
set_option maxHeartbeats 3000000 in
theorem first13_any (w : World) : Calls Try.prog 9 #[] w (Pure w (.bool true)) := by
  have P1 := Lib.hid (new_any w)
  go_enter Try.func9, Try.ntmps9
  go_wp2_with fail
  (with_reducible refine P1.out.mono ?_)
  rintro e w0 ⟨p, b, rfl, -, hpb, ht0, hb0⟩
  have T0 := Lib.hid ht0
  have B0 := Lib.hid hb0
  have HPB := Lib.hid hpb
  clear ht0 hb0 hpb P1
  go_wp2_with fail
  (with_reducible refine ((sset [98] [50] (by decide) (by decide)).out _ _ _ ?_ ?_).mono ?_)
  · rfl
  · rfl
  rintro e w1 ⟨A1, a1, C1, c1, rfl, q1, r1, hb1⟩
  go_wp2_with fail
  (with_reducible refine ((sset [97] [48] (by decide) (by decide)).out _ _ _ ?_ ?_).mono ?_)
  · rfl
  · rfl
  rintro e w2 ⟨A2, a2, C2, c2, rfl, q2, r2, hb2⟩
  go_wp2_with fail
  (with_reducible refine ((sset [97, 98] [] (by decide) (by decide)).out _ _ _ ?_ ?_).mono ?_)
  · rfl
  · rfl
  rintro e w3 ⟨A3, a3, C3, c3, rfl, q3, r3, hb3⟩
  go_wp2_with fail
  (with_reducible refine ((sset [97] [49] (by decide) (by decide)).out _ _ _ ?_ ?_).mono ?_)
  · rfl
  · rfl
  rintro e w4 ⟨A4, a4, C4, c4, rfl, q4, r4, hb4⟩
  go_wp2_with fail
  (with_reducible refine ((sgone [122] (by decide)).out _ _ ?_).mono ?_)
  · rfl
  rintro e w5 ⟨A5, a5, C5, c5, rfl, q5, r5, hb5⟩
  have b54 := hb5
  have b53 := below_step hb4 b54
  have b52 := below_step hb3 b53
  have b51 := below_step hb2 b52
  have b50 := below_step hb1 b51
  have T5 := Lib.hid (T0.out.keep b50)
  have X1 := Lib.hid (And.intro (q1.below b51) (r1.below b51))
  have X2 := Lib.hid (And.intro (q2.below b52) (r2.below b52))
  have X3 := Lib.hid (And.intro (q3.below b53) (r3.below b53))
  have X4 := Lib.hid (And.intro (q4.below b54) (r4.below b54))
  have X5 := Lib.hid (And.intro q5 r5)
  have B5 := Lib.hid (below_step B0.out b50)
  clear b54 b53 b52 b51 b50 q1 r1 q2 r2 q3 r3 q4 r4 q5 r5 hb1 hb2 hb3 hb4 hb5 T0 B0
  dsimp only [List.length_cons, List.length_nil]
  go_wp2_with fail
  have hx := blk_new w5 (.cells #[.slice A1 1 a1, .slice C1 1 c1, .bool false, .slice A2 1 a2, .slice C2 1 c2, .bool false, .slice A3 2 a3, .slice C3 0 c3, .bool false, .slice A4 1 a4, .slice C4 1 c4, .bool false, .slice A5 1 a5, .slice C5 0 c5, .bool true] 37)
  have bU := below_alloc (Below.refl w5.heap.size w5) (.cells #[.slice A1 1 a1, .slice C1 1 c1, .bool false, .slice A2 1 a2, .slice C2 1 c2, .bool false, .slice A3 2 a3, .slice C3 0 c3, .bool false, .slice A4 1 a4, .slice C4 1 c4, .bool false, .slice A5 1 a5, .slice C5 0 c5, .bool true] 37)
  generalize w5.alloc (.cells #[.slice A1 1 a1, .slice C1 1 c1, .bool false, .slice A2 1 a2, .slice C2 1 c2, .bool false, .slice A3 2 a3, .slice C3 0 c3, .bool false, .slice A4 1 a4, .slice C4 1 c4, .bool false, .slice A5 1 a5, .slice C5 0 c5, .bool true] 37) = U at *
  have PA : Calls Try.prog 21 #[.pointer (some ⟨p, 0, none⟩), .slice (some ⟨w5.heap.size, 0, none⟩) 5 5] U (RetA U p b 0 [] lst5) :=
    apply_any p b 0 [] _ 5 lst5 U (T5.out.keep bU) (lay5 (r1 := sg A1 C1 a1 c1 ([98], [50], false)) (r2 := sg A2 C2 a2 c2 ([97], [48], false)) (r3 := sg A3 C3 a3 c3 ([97, 98], [], false)) (r4 := sg A4 C4 a4 c4 ([97], [49], false)) (r5 := sg A5 C5 a5 c5 ([122], [], true)) hx
      (sg_R (X1.out.1.below bU) (X1.out.2.below bU)) (sg_R (X2.out.1.below bU) (X2.out.2.below bU)) (sg_R (X3.out.1.below bU) (X3.out.2.below bU)) (sg_R (X4.out.1.below bU) (X4.out.2.below bU)) (sg_R (X5.out.1.below bU) (X5.out.2.below bU))) (by decide) (by decide)
  have BU := Lib.hid (below_step B5.out bU)
  clear hx bU X1 X2 X3 X4 X5 T5 B5
  (with_reducible refine PA.mono ?_)
  rintro e w6 (⟨-, rfl, ht6, hb6⟩ | ⟨hno, -, -⟩)
  rotate_left
  · rw [may5] at hno; cases hno
  rw [app5] at ht6
  have T6 := Lib.hid ht6
  have B6 := Lib.hid (below_only BU.out hb6 (fun i hi => by rw [hi]; exact HPB.out))
  clear ht6 hb6 PA BU
  go_wp2_with fail
  (with_reducible refine ((sset [99] [51] (by decide) (by decide)).out _ _ _ ?_ ?_).mono ?_)
  · rfl
  · rfl
  rintro e w1 ⟨A1, a1, C1, c1, rfl, q1, r1, hb1⟩
  go_wp2_with fail
  (with_reducible refine ((sset [] [120] (by decide) (by decide)).out _ _ _ ?_ ?_).mono ?_)
  · rfl
  · rfl
  rintro e w2 ⟨A2, a2, C2, c2, rfl, q2, r2, hb2⟩
  have T2 := Lib.hid ((T6.out.keep hb1).keep hb2)
  have X1 := Lib.hid (And.intro (q1.below hb2) (r1.below hb2))
  have X2 := Lib.hid (And.intro q2 r2)
  have B2 := Lib.hid (below_step (below_step B6.out hb1) hb2)
  clear q1 r1 q2 r2 hb1 hb2 T6 B6
  dsimp only [List.length_cons, List.length_nil]
  go_wp2_with fail
  have hx := blk_new w2 (.cells #[.slice A1 1 a1, .slice C1 1 c1, .bool false, .slice A2 0 a2, .slice C2 1 c2, .bool false] 37)
  have bU := below_alloc (Below.refl w2.heap.size w2) (.cells #[.slice A1 1 a1, .slice C1 1 c1, .bool false, .slice A2 0 a2, .slice C2 1 c2, .bool false] 37)
  generalize w2.alloc (.cells #[.slice A1 1 a1, .slice C1 1 c1, .bool false, .slice A2 0 a2, .slice C2 1 c2, .bool false] 37) = U2 at *
  have TU := Lib.hid (T2.out.keep bU)
  have PB : Calls Try.prog 21 #[.pointer (some ⟨p, 0, none⟩), .slice (some ⟨w2.heap.size, 0, none⟩) 2 2] U2 (RetA U2 p b 5 rows3 lst2) :=
    apply_any p b 5 rows3 _ 2 lst2 U2 TU.out (lay2 (r1 := sg A1 C1 a1 c1 ([99], [51], false)) (r2 := sg A2 C2 a2 c2 ([], [120], false)) hx
      (sg_R (X1.out.1.below bU) (X1.out.2.below bU)) (sg_R (X2.out.1.below bU) (X2.out.2.below bU))) (by decide) (by decide)
  have BU := Lib.hid (below_step B2.out bU)
  clear hx bU X1 X2 T2 B2
  (with_reducible refine PB.mono ?_)
  rintro e w7 (⟨hno, -, -⟩ | ⟨-, rfl, hb7⟩)
  · rw [may2] at hno; cases hno
  have T7 := Lib.hid (TU.out.keep hb7)
  have B7 := Lib.hid (below_step BU.out hb7)
  have d7 := T7.out.cell
  clear hb7 PB TU BU
  obtain ⟨V, hV⟩ : ∃ V, V = w7.alloc (ob [97]) := ⟨_, rfl⟩
  have k1 : (convert 27 27 (.slice (some ⟨w7.heap.size, 0, none⟩) 1 1)).run Try.prog (w7.alloc (.cells #[.int .u8 97] 5)) = .ok (.slice (some ⟨w7.heap.size, 0, none⟩) 1 1) V := by rw [hV]; exact conv8 _ _ _ _ _ rfl
  have bV : Below w7.heap.size w7 V := by rw [hV]; exact below_alloc (Below.refl _ _) _
  have sV := ob_bs (w := w7) (W := V) (g := w7.heap.size) [97] (by decide) (by rw [hV]; exact blk_new _ _)
  have TV := Lib.hid (T7.out.keep bV)
  have BV := Lib.hid (below_step B7.out bV)
  have PG : Calls Try.prog 25 #[.map (some b), .slice (some ⟨w7.heap.size, 0, none⟩) 1 1] V (RetG V [49] true) := get_any b 5 rows3 (some ⟨w7.heap.size, 0, none⟩) 1 [97] V TV.out.map sV
  clear hV bV sV T7 B7
  go_wp2_with fail
  (with_reducible refine PG.mono ?_)
  rintro e w8 ⟨B8, d8, rfl, q8, hb8, -⟩
  have T8 := Lib.hid (TV.out.keep hb8)
  have B8' := Lib.hid (below_step BV.out hb8)
  have Q8 := Lib.hid q8
  have PRw : Calls Try.prog 23 #[.pointer (some ⟨p, 0, none⟩), .int .i64 3] w8 (RetL RowE w8 rows3) := rows_tab p b 5 rows3 3 w8 T8.out (by decide) (by decide) (by decide)
  clear q8 hb8 TV BV PG k1 d7
  dsimp only [List.length_cons, List.length_nil]
  go_wp2_with fail
  (with_reducible refine PRw.mono ?_)
  rintro e w9 ⟨A9, c9, rfl, l9, hb9⟩
  have T9 := Lib.hid (T8.out.keep hb9)
  have B9 := Lib.hid (below_step B8'.out hb9)
  have Q9 := Lib.hid (Q8.out.below hb9)
  have L9 := Lib.hid l9
  clear l9 hb9 T8 B8' Q8 PRw
  obtain ⟨W1, e1⟩ : ∃ V, V = w9.alloc (ob [97]) := ⟨_, rfl⟩
  have k1 : (convert 27 27 (.slice (some ⟨w9.heap.size, 0, none⟩) 1 1)).run Try.prog (w9.alloc (.cells #[.int .u8 97] 5)) = .ok (.slice (some ⟨w9.heap.size, 0, none⟩) 1 1) W1 := by rw [e1]; exact conv8 _ _ _ _ _ rfl
  obtain ⟨W2, e2⟩ : ∃ V, V = W1.alloc (ob [49]) := ⟨_, rfl⟩
  have k2 : (convert 27 27 (.slice (some ⟨W1.heap.size, 0, none⟩) 1 1)).run Try.prog (W1.alloc (.cells #[.int .u8 49] 5)) = .ok (.slice (some ⟨W1.heap.size, 0, none⟩) 1 1) W2 := by rw [e2]; exact conv8 _ _ _ _ _ rfl
  obtain ⟨W3, e3⟩ : ∃ V, V = W2.alloc (ob [97, 98]) := ⟨_, rfl⟩
  have k3 : (convert 27 27 (.slice (some ⟨W2.heap.size, 0, none⟩) 2 2)).run Try.prog (W2.alloc (.cells #[.int .u8 97, .int .u8 98] 5)) = .ok (.slice (some ⟨W2.heap.size, 0, none⟩) 2 2) W3 := by rw [e3]; exact conv8 _ _ _ _ _ rfl
  obtain ⟨W4, e4⟩ : ∃ V, V = W3.alloc (ob [98]) := ⟨_, rfl⟩
  have k4 : (convert 27 27 (.slice (some ⟨W3.heap.size, 0, none⟩) 1 1)).run Try.prog (W3.alloc (.cells #[.int .u8 98] 5)) = .ok (.slice (some ⟨W3.heap.size, 0, none⟩) 1 1) W4 := by rw [e4]; exact conv8 _ _ _ _ _ rfl
  obtain ⟨W5, e5⟩ : ∃ V, V = W4.alloc (ob [50]) := ⟨_, rfl⟩
  have k5 : (convert 27 27 (.slice (some ⟨W4.heap.size, 0, none⟩) 1 1)).run Try.prog (W4.alloc (.cells #[.int .u8 50] 5)) = .ok (.slice (some ⟨W4.heap.size, 0, none⟩) 1 1) W5 := by rw [e5]; exact conv8 _ _ _ _ _ rfl
  have WN := Lib.hid (want2 e1 e2 e3 e4 e5)
  clear e1 e2 e3 e4 e5
  go_wp2_with fail
  obtain ⟨U3, eU⟩ : ∃ U, U = W5.alloc (.cells #[.slice (some ⟨w9.heap.size, 0, none⟩) 1 1, .slice (some ⟨W1.heap.size, 0, none⟩) 1 1, .slice (some ⟨W2.heap.size, 0, none⟩) 2 2, .slice none 0 0, .slice (some ⟨W3.heap.size, 0, none⟩) 1 1, .slice (some ⟨W4.heap.size, 0, none⟩) 1 1] 54) := ⟨_, rfl⟩
  obtain ⟨wl, wb⟩ := WN.out U3 eU
  have HEU := Lib.hid eU
  have TU := Lib.hid (T9.out.keep wb)
  have BU := Lib.hid (below_step B9.out wb)
  have QU := Lib.hid (Q9.out.below wb)
  have PSm : Calls Try.prog 34 #[.slice A9 rows3.length c9, .slice (some ⟨W5.heap.size, 0, none⟩) 3 3] U3 (Pure U3 (.bool true)) := by
    have h := sameRows_any A9 (some ⟨W5.heap.size, 0, none⟩) c9 3 rows3 rows3 U3 (L9.out.below wb) wl
    rw [decide_eq_true rfl] at h
    exact h
  clear wl wb WN T9 B9 Q9 L9 k1 k2 k3 k4 k5 eU
  rw [← HEU.out]
  clear HEU
  (with_reducible refine PSm.mono ?_)
  rintro e w10 ⟨rfl, hb10⟩
  have T10 := Lib.hid (TU.out.keep hb10)
  have B10 := Lib.hid (below_step BU.out hb10)
  have cv : (convert 27 9 (.slice B8 1 d8)).run Try.prog w10 = .ok (.string ⟨#[49]⟩) w10 := str_of B8 d8 [49] w10 (QU.out.below hb10)
  have LN : Calls Try.prog 22 #[.pointer (some ⟨p, 0, none⟩)] w10 (fun e w' => e = .returned (.int .i64 3) ∧ w10 = w') := len_any p b 5 rows3 w10 T10.out
  have PO := Lib.hid (over_any p b 5 rows3 w10 T10.out (by decide))
  clear hb10 PSm TU BU QU
  go_wp2_with fail
  (with_reducible refine (num13_any _ _).mono ?_)
  rintro e wq ⟨rfl, rfl⟩
  go_wp2_with fail
  (with_reducible refine (num13_any _ _).mono ?_)
  rintro e wq ⟨rfl, rfl⟩
  go_wp2_with fail
  (with_reducible refine LN.mono ?_)
  rintro e w11 ⟨rfl, rfl⟩
  clear LN cv
  go_wp2_with fail
  (with_reducible refine PO.out.mono ?_)
  rintro e w11 ⟨o, ob_, oc, rfl, -, hob, -, tov, hb11⟩
  have T11 : Hid (TOver w11 o ob_ 3 rows3 oc 3 rows3) := Lib.hid tov
  have B11 := Lib.hid (below_step B10.out hb11)
  have HOB := Lib.hid (Nat.le_trans B10.out.size hob)
  clear hob tov hb11 PO T10 B10
  obtain ⟨V, hV⟩ : ∃ V, V = w11.alloc (ob [97]) := ⟨_, rfl⟩
  have k1 : (convert 27 27 (.slice (some ⟨w11.heap.size, 0, none⟩) 1 1)).run Try.prog (w11.alloc (.cells #[.int .u8 97] 5)) = .ok (.slice (some ⟨w11.heap.size, 0, none⟩) 1 1) V := by rw [hV]; exact conv8 _ _ _ _ _ rfl
  have bV : Below w11.heap.size w11 V := by rw [hV]; exact below_alloc (Below.refl _ _) _
  have sV := ob_bs (w := w11) (W := V) (g := w11.heap.size) [97] (by decide) (by rw [hV]; exact blk_new _ _)
  have BV := Lib.hid (below_step B11.out bV)
  have PD : Calls Try.prog 44 #[.pointer (some ⟨o, 0, none⟩), .slice (some ⟨w11.heap.size, 0, none⟩) 1 1] V (RetD V o ob_ 3 rows3 oc 3 rows3 [97]) := odel_any o ob_ 3 oc 3 rows3 rows3 _ 1 [97] V (T11.out.keep bV) sV
  clear hV bV sV T11 B11
  go_wp2_with fail
  (with_reducible refine PD.mono ?_)
  rintro e w12 ⟨rfl, t12, n12⟩
  rw [del1] at t12
  rw [has1]
  have T12 := Lib.hid t12
  have B12 := Lib.hid (below_only BV.out n12 (fun i hi => by rw [hi]; exact HOB.out))
  clear t12 n12 BV PD k1
  obtain ⟨V2, hV⟩ : ∃ V, V = w12.alloc (ob [97]) := ⟨_, rfl⟩
  have k1 : (convert 27 27 (.slice (some ⟨w12.heap.size, 0, none⟩) 1 1)).run Try.prog (w12.alloc (.cells #[.int .u8 97] 5)) = .ok (.slice (some ⟨w12.heap.size, 0, none⟩) 1 1) V2 := by rw [hV]; exact conv8 _ _ _ _ _ rfl
  have bV : Below w12.heap.size w12 V2 := by rw [hV]; exact below_alloc (Below.refl _ _) _
  have sV := ob_bs (w := w12) (W := V2) (g := w12.heap.size) [97] (by decide) (by rw [hV]; exact blk_new _ _)
  have BV := Lib.hid (below_step B12.out bV)
  have PD : Calls Try.prog 44 #[.pointer (some ⟨o, 0, none⟩), .slice (some ⟨w12.heap.size, 0, none⟩) 1 1] V2 (RetD V2 o ob_ 3 rowsD oc 3 rows3 [97]) := odel_any o ob_ 3 oc 3 rowsD rows3 _ 1 [97] V2 (T12.out.keep bV) sV
  clear hV bV sV T12 B12
  go_wp2_with fail
  (with_reducible refine PD.mono ?_)
  rintro e w13 ⟨rfl, t13, n13⟩
  rw [del2] at t13
  rw [has2]
  have T13 := Lib.hid t13
  have B13 := Lib.hid (below_only BV.out n13 (fun i hi => by rw [hi]; exact HOB.out))
  clear t13 n13 BV PD k1
  obtain ⟨V3, hV⟩ : ∃ V, V = w13.alloc (ob [99]) := ⟨_, rfl⟩
  have k1 : (convert 27 27 (.slice (some ⟨w13.heap.size, 0, none⟩) 1 1)).run Try.prog (w13.alloc (.cells #[.int .u8 99] 5)) = .ok (.slice (some ⟨w13.heap.size, 0, none⟩) 1 1) V3 := by rw [hV]; exact conv8 _ _ _ _ _ rfl
  obtain ⟨V4, hV4⟩ : ∃ V, V = V3.alloc (ob [51]) := ⟨_, rfl⟩
  have k2 : (convert 27 27 (.slice (some ⟨V3.heap.size, 0, none⟩) 1 1)).run Try.prog (V3.alloc (.cells #[.int .u8 51] 5)) = .ok (.slice (some ⟨V3.heap.size, 0, none⟩) 1 1) V4 := by rw [hV4]; exact conv8 _ _ _ _ _ rfl
  have bV : Below w13.heap.size w13 V3 := by rw [hV]; exact below_alloc (Below.refl _ _) _
  have bV4 : Below V3.heap.size V3 V4 := by rw [hV4]; exact below_alloc (Below.refl _ _) _
  have sV := (ob_bs (w := w13) (W := V3) (g := w13.heap.size) [99] (by decide) (by rw [hV]; exact blk_new _ _)).below bV4
  have sV4 := ob_bs (w := w13) (W := V4) (g := V3.heap.size) [51] (by decide) (by rw [hV4]; exact blk_new _ _)
  have BV := Lib.hid (below_step (below_step B13.out bV) bV4)
  have PD : Calls Try.prog 45 #[.pointer (some ⟨o, 0, none⟩), .slice (some ⟨w13.heap.size, 0, none⟩) 1 1, .slice (some ⟨V3.heap.size, 0, none⟩) 1 1] V4 (RetSt V4 o ob_ 3 rowsD oc 3 rows3 [99] [51]) := oset_any o ob_ 3 oc 3 rowsD rows3 _ _ 1 1 [99] [51] V4 ((T13.out.keep bV).keep bV4) sV sV4 (by decide)
  clear hV hV4 bV bV4 sV sV4 T13 B13
  go_wp2_with fail
  (with_reducible refine PD.mono ?_)
  rintro e w14 (⟨-, rfl, t14, n14⟩ | ⟨hno, -, -⟩)
  rotate_left
  · rw [may1] at hno; cases hno
  rw [set1] at t14
  have B14 := Lib.hid (below_only BV.out n14 (fun i hi => by rw [hi]; exact HOB.out))
  have PF : Calls Try.prog 31 #[.pointer (some ⟨o, 0, none⟩)] w14 (RetL SetE w14 lstS) := by
    have h := osets_any o ob_ 4 oc 3 rowsS rows3 w14 t14 (by decide) (by decide)
    rw [setsF] at h
    exact h
  clear t14 n14 BV PD k1 k2
  go_wp2_with fail
  (with_reducible refine PF.mono ?_)
  rintro e w15 ⟨AF, cf, rfl, l15, hb15⟩
  have L15 := Lib.hid l15
  have B15 := Lib.hid (below_step B14.out hb15)
  clear l15 hb15 PF B14 HOB
  go_wp2_with fail
  (with_reducible refine ((sgone [97] (by decide)).out _ _ ?_).mono ?_)
  · rfl
  rintro e w1 ⟨A1, a1, C1, c1, rfl, q1, r1, hb1⟩
  go_wp2_with fail
  (with_reducible refine ((sset [99] [51] (by decide) (by decide)).out _ _ _ ?_ ?_).mono ?_)
  · rfl
  · rfl
  rintro e w2 ⟨A2, a2, C2, c2, rfl, q2, r2, hb2⟩
  have LF2 := Lib.hid ((L15.out.below hb1).below hb2)
  have X1 := Lib.hid (And.intro (q1.below hb2) (r1.below hb2))
  have X2 := Lib.hid (And.intro q2 r2)
  have B2 := Lib.hid (below_step (below_step B15.out hb1) hb2)
  clear q1 r1 q2 r2 hb1 hb2 L15 B15
  dsimp only [List.length_cons, List.length_nil]
  go_wp2_with fail
  have hx := blk_new w2 (.cells #[.slice A1 1 a1, .slice C1 0 c1, .bool true, .slice A2 1 a2, .slice C2 1 c2, .bool false] 37)
  have bU := below_alloc (Below.refl w2.heap.size w2) (.cells #[.slice A1 1 a1, .slice C1 0 c1, .bool true, .slice A2 1 a2, .slice C2 1 c2, .bool false] 37)
  generalize w2.alloc (.cells #[.slice A1 1 a1, .slice C1 0 c1, .bool true, .slice A2 1 a2, .slice C2 1 c2, .bool false] 37) = U2 at *
  have LU := Lib.hid (LF2.out.below bU)
  have PB : Calls Try.prog 46 #[.slice AF lstS.length cf, .slice (some ⟨w2.heap.size, 0, none⟩) 2 2] U2 (Pure U2 (.bool true)) :=
    sameSets_self AF _ cf 2 lstS U2 LU.out (lay2 (r1 := sg A1 C1 a1 c1 ([97], [], true)) (r2 := sg A2 C2 a2 c2 ([99], [51], false)) hx
      (sg_R (X1.out.1.below bU) (X1.out.2.below bU)) (sg_R (X2.out.1.below bU) (X2.out.2.below bU)))
  have BU := Lib.hid (below_step B2.out bU)
  clear hx bU X1 X2 LF2 B2
  (with_reducible refine PB.mono ?_)
  rintro e w16 ⟨rfl, hb16⟩
  have B16 := Lib.hid (below_step BU.out hb16)
  have PQ : Calls Try.prog 12 #[.slice AF lstS.length cf] w16 (RetPS w16 ([0, 1, 0, 0, 97, 1, 1, 0, 1, 99, 51], 0)) := by
    have h := putSets_any AF cf lstS w16 (LU.out.below hb16) (by decide)
    rw [putF] at h
    exact h
  clear hb16 BU LU PB
  go_wp2_with fail
  (with_reducible refine PQ.mono ?_)
  rintro e w17 ⟨BQ, dq, rfl, sq, hb17, -⟩
  have B17 := Lib.hid (below_step B16.out hb17)
  have cv : (convert 27 9 (.slice BQ 11 dq)).run Try.prog w17 = .ok (.string ⟨#[0, 1, 0, 0, 97, 1, 1, 0, 1, 99, 51]⟩) w17 := str_of BQ dq [0, 1, 0, 0, 97, 1, 1, 0, 1, 99, 51] w17 sq
  clear sq hb17 PQ B16
  dsimp only [List.length_cons, List.length_nil]
  go_wp2_with fail
  (with_reducible refine (num13_any _ _).mono ?_)
  rintro e wq ⟨rfl, rfl⟩
  go_wp2_with fail
  (with_reducible refine (num13_any _ _).mono ?_)
  rintro e wq ⟨rfl, rfl⟩
  go_wp2_with fail
  exact bodyPost_ret (v := .bool true) (by simp [results, Try.results9, go_sem]) rfl ⟨rfl, B17.out⟩
end Go.Proofs.Ytnhfeoniiadjfaa.Lst
/- Bytes in a block of the call's own: read and written over. -/
namespace Go.Proofs.Ytnhfeoniiadjfaa.Lst
open Go.RowKit Go.Proofs.Ytnhfeoniiadjfaa.K Go.Proofs.Ytnhfeoniiadjfaa.Help Go.Proofs.Ytnhfeoniiadjfaa.Pfx Go.Proofs.Ytnhfeoniiadjfaa.Peer
set_option linter.unusedVariables false

/-- block g holds these bytes from its start on, whatever lies behind them -/
def Byt (w : World) (g : Nat) (L : List UInt8) : Prop := ∃ cs : Array Value, w.heap[g]? = some (.cells cs 5 (0, 0)) ∧ ∀ j, j < L.length → cs[j]? = some (.int .u8 ((L.getD j 0).toNat : Int))
section
variable {w w' : World} {g : Nat} {L : List UInt8}
theorem Byt.lt (h : Byt w g L) : g < w.heap.size := by obtain ⟨cs, h, _⟩ := h; exact blk_lt h
theorem Byt.cell (h : Byt w g L) (j : Nat) (hj : j < L.length) : w.cell? ⟨g, j, none⟩ = some (.int .u8 ((L.getD j 0).toNat : Int)) := by
  obtain ⟨cs, h, h2⟩ := h
  rw [blk_cell h]; exact h2 j hj
theorem Byt.free (h : Byt w g L) (j : Nat) : w.frozen? ⟨g, j, none⟩ = false := by obtain ⟨cs, h, _⟩ := h; exact blk_free h j
theorem Byt.set (h : Byt w g L) (j : Nat) (x : UInt8) : Byt (w.setCell ⟨g, j, none⟩ (.int .u8 (x.toNat : Int))) g (L.set j x) := by
  obtain ⟨cs, h, h2⟩ := h
  refine ⟨_, blk_set h j _, fun i hi => ?_⟩
  rw [List.length_set] at hi
  have h3 := h2 i hi
  have hc : i < cs.size := by
    rcases Nat.lt_or_ge i cs.size with h | h
    · exact h
    · rw [Array.getElem?_eq_none h] at h3; cases h3
  rw [Array.getElem?_setIfInBounds]
  by_cases e : j = i
  · subst e
    simp [hc, hi]
  · rw [if_neg e, h3]
    simp [e]
theorem Byt.only {T : Nat → Prop} (h : Byt w g L) (k : Only w w' T) (hn : ¬ T g) : Byt w' g L := by
  obtain ⟨cs, h, h2⟩ := h
  exact ⟨cs, k.blk h hn, h2⟩
theorem Byt.keep (h : Byt w g L) (hb : Below w.heap.size w w') : Byt w' g L := by
  obtain ⟨cs, h, h2⟩ := h
  exact ⟨cs, (hb.block g (blk_lt h)).trans h, h2⟩
theorem Byt.bs (h : Byt w g L) (n c : Nat) (hn : n ≤ L.length) (hc : n ≤ c) (hm : n ≤ 140737488355328) : Bs w (some ⟨g, 0, none⟩) c (L.take n) := by
  have hl : (L.take n).length = n := by rw [List.length_take]; omega
  refine ⟨by omega, by omega, fun i hi => ⟨_, rfl, h.lt, ?_⟩⟩
  rw [hl] at hi
  rw [addr_add_plain, h.cell i (by omega)]
  simp [hi]
end
end Go.Proofs.Ytnhfeoniiadjfaa.Lst
/- The walk of marked. -/
namespace Go.Proofs.Ytnhfeoniiadjfaa.Lst
open Go.RowKit Go.Proofs.Ytnhfeoniiadjfaa.K Go.Proofs.Ytnhfeoniiadjfaa.Help Go.Proofs.Ytnhfeoniiadjfaa.Pfx Go.Proofs.Ytnhfeoniiadjfaa.Peer
set_option linter.unusedVariables false

theorem over_step (L : List UInt8) (i n : Nat) (hi : i < n) (hn : n = L.length) : (List.replicate i 35 ++ L.drop i).set i 35 = List.replicate (i + 1) 35 ++ L.drop (i + 1) := by
  have h : L.drop i = L[i] :: L.drop (i + 1) := List.drop_eq_getElem_cons (by omega)
  rw [List.set_append_right _ _ (by simp), List.length_replicate, Nat.sub_self, h, List.set_cons_zero, List.replicate_succ', List.append_assoc]
  rfl
def markB (L was : List UInt8) (x y : UInt8) : Bool := decide (L.take was.length = was) && (decide (L.getD was.length 0 = x) && decide (L.getD (was.length + 1) 0 = y))
def RetMk (w : World) (g : Nat) (L : List UInt8) (r : Bool) (e : Ending) (w' : World) : Prop := e = .returned (.bool r) ∧ Byt w' g (List.replicate L.length 35) ∧ Only w w' (fun i => i = g)
set_option maxRecDepth 100000 in
set_option maxHeartbeats 2000000 in
theorem marked_any (g c : Nat) (L was : List UInt8) (x y : UInt8) (A1 : Option Addr) (a1 : Nat) (w : World) (hg : Byt w g L) (hw : Bs w A1 a1 was) (hl : L.length = was.length + 2) (hc : L.length ≤ c) (hm : c ≤ 9223372036854775807) :
    Calls Try.prog 52 #[.slice (some ⟨g, 0, none⟩) L.length c, .slice A1 was.length a1, .int .u8 (x.toNat : Int), .int .u8 (y.toNat : Int)] w (RetMk w g L (markB L was x y)) := by
  have HG := Lib.hid hg
  have p0 := hg.cell was.length (by omega)
  have p1 := hg.cell (was.length + 1) (by omega)
  have SB := sameBytes (some ⟨g, 0, none⟩) A1 c a1 (L.take was.length) was w (hg.bs was.length c (by omega) (by omega) hw.max) hw
  have hwm := hw.max
  have htl : (L.take was.length).length = was.length := by rw [List.length_take]; omega
  rw [htl] at SB
  generalize hr : markB L was x y = res
  have HR := Lib.hid hr
  clear hr htl
  unfold markB at HR
  rw [hl]
  have HL := Lib.hid hl
  generalize hx0 : L.getD was.length 0 = x0 at *
  generalize hy0 : L.getD (was.length + 1) 0 = y0 at *
  generalize hz0 : decide (L.take was.length = was) = z0 at *
  generalize hn : was.length = n at *
  rw [hl] at hc
  have hwr : IntKind.i64.wrap ((n : Int) + 1) = (n : Int) + 1 := IntWalk.i64_in _ (by omega)
  have hn0 : (0 : Int) ≤ (n : Int) := by omega
  have hn1 : (n : Int) ≤ (c : Int) := by omega
  have hn2 : (n : Int) < ((n + 2 : Nat) : Int) := by omega
  have hn3 : (n : Int) + 1 < ((n + 2 : Nat) : Int) := by omega
  have hn4 : ((n : Int) + 1).toNat = n + 1 := by omega
  have ex : decide ((x0.toNat : Int) = (x.toNat : Int)) = decide (x0 = x) := by
    rw [Bool.eq_iff_iff, decide_eq_true_eq, decide_eq_true_eq]
    exact ⟨fun h => UInt8.toNat_inj.1 (by omega), fun h => by rw [h]⟩
  have ey : decide ((y0.toNat : Int) = (y.toNat : Int)) = decide (y0 = y) := by
    rw [Bool.eq_iff_iff, decide_eq_true_eq, decide_eq_true_eq]
    exact ⟨fun h => UInt8.toNat_inj.1 (by omega), fun h => by rw [h]⟩
  have nx : x0 ≠ x → ((x0.toNat : Int) == (x.toNat : Int)) = false := fun h => by rw [beq_eq_false_iff_ne]; intro h2; exact h (UInt8.toNat_inj.1 (by omega))
  have ny : y0 ≠ y → ((y0.toNat : Int) == (y.toNat : Int)) = false := fun h => by rw [beq_eq_false_iff_ne]; intro h2; exact h (UInt8.toNat_inj.1 (by omega))
  have NX := Lib.hid nx
  have NY := Lib.hid ny
  have SB := Lib.hid SB
  have P0 := Lib.hid p0
  have P1 := Lib.hid p1
  clear hg hw hl hx0 hy0 hz0 hn ex ey nx ny p0 p1
  go_enter Try.func52, Try.ntmps52
  go_wp2_with fail
  (with_reducible refine SB.out.mono ?_)
  rintro e w1 ⟨q, rfl, rfl⟩
  have p0 : (w.drewN q).cell? ⟨g, n, none⟩ = some (.int .u8 (x0.toNat : Int)) := P0.out
  have p1 : (w.drewN q).cell? ⟨g, n + 1, none⟩ = some (.int .u8 (y0.toNat : Int)) := P1.out
  have HW : Hid (Only w (w.drewN q) (fun i => i = g)) := Lib.hid (Only.drewN q (Only.refl w _))
  have HGq : Hid (Byt (w.drewN q) g L) := HG
  generalize w.drewN q = W at *
  clear HG P0 P1 SB
  have key : (z0 = false ∧ res = false) ∨ (z0 = true ∧ ((x0 ≠ x ∧ res = false) ∨ (x0 = x ∧ ((y0 ≠ y ∧ res = false) ∨ (y0 = y ∧ res = true))))) := by
    have h := HR.out
    cases z0
    · exact .inl ⟨rfl, h.symm⟩
    · refine .inr ⟨rfl, ?_⟩
      by_cases h1 : x0 = x
      · refine .inr ⟨h1, ?_⟩
        by_cases h2 : y0 = y
        · refine .inr ⟨h2, ?_⟩
          rw [← h]; simp [h1, h2]
        · refine .inl ⟨h2, ?_⟩
          rw [← h]; simp [h2]
      · refine .inl ⟨h1, ?_⟩
        rw [← h]; simp [h1]
  clear HR
  rcases key with ⟨rfl, rfl⟩ | ⟨rfl, ⟨h1, rfl⟩ | ⟨rfl, ⟨h2, rfl⟩ | ⟨rfl, rfl⟩⟩⟩
  rotate_left
  have h1b := NX.out h1
  rotate_left
  have h2b := NY.out h2
  rotate_left
  rotate_left
  all_goals
    go_wp2_with fail
    go_loopg [11] (n + 2) (fun gk i wr => ∃ k : Nat, k ≤ n + 2 ∧ gk = n + 2 - k ∧ i = .int .i64 (k : Int) ∧ Hid (Byt wr g (List.replicate k 35 ++ L.drop k)) ∧ Hid (Only w wr (fun i => i = g)))
    case atStart => exact ⟨0, by omega, rfl, rfl, by simpa using HGq, HW⟩
    case round =>
      obtain ⟨k, hk, rfl, rfl, HB, HO⟩ := hrel
      by_cases hlt : k < n + 2
      · have i1 : (k : Int) < ((n + 2 : Nat) : Int) := by omega
        have i2 : (k : Int) < (n : Int) + 2 := by omega
        have i0 : (0 : Int) ≤ (k : Int) := by omega
        have fz := HB.out.free k
        have c0 := HB.out.cell k (by rw [List.length_append, List.length_replicate, List.length_drop, HL.out]; omega)
        have NB := Lib.hid (HB.out.set k 35)
        rw [over_step L k (n + 2) hlt HL.out.symm] at NB
        have NO := Lib.hid (HO.out.setCell (p := ⟨g, k, none⟩) (.inl rfl) (.int .u8 35))
        go_wp2_with fail
        go_roundg (n + 2 - (k + 1))
        case measure => omega
        case rel => exact ⟨k + 1, by omega, rfl, by go_num, NB, NO⟩
      · obtain rfl : k = n + 2 := by omega
        have i1 : ¬ ((n + 2 : Nat) : Int) < ((n + 2 : Nat) : Int) := by omega
        have HB2 : Hid (Byt wr g (List.replicate L.length 35)) := by
          have h := HB.out
          rw [List.drop_of_length_le (by rw [HL.out]; omega), List.append_nil] at h
          rw [Hid, HL.out]; exact h
        go_wp2_with fail
        exact bodyPost_ret (v := .bool _) (by simp [results, Try.results52, go_sem]) rfl ⟨rfl, HB2.out, HO.out⟩
end Go.Proofs.Ytnhfeoniiadjfaa.Lst
/- SameSets of any two lists. -/
namespace Go.Proofs.Ytnhfeoniiadjfaa.Lst
open Go.RowKit Go.Proofs.Ytnhfeoniiadjfaa.K Go.Proofs.Ytnhfeoniiadjfaa.Help Go.Proofs.Ytnhfeoniiadjfaa.Pfx Go.Proofs.Ytnhfeoniiadjfaa.Peer
set_option linter.unusedVariables false

theorem eq_getDS {l m : List SetD} (hn : l.length = m.length) : l = m ↔ ∀ i, i < l.length → l.getD i zeroSet = m.getD i zeroSet := by
  constructor
  · rintro rfl i _; rfl
  · intro h
    apply List.ext_getElem hn
    intro i h1 h2
    have := h i h1
    simpa [h1, h2] using this
set_option maxRecDepth 100000 in
set_option maxHeartbeats 2000000 in
theorem sameSets_gen (A B : Option Addr) (a b : Nat) (l m : List SetD) (w : World) (hp : Lst SetE w (fun _ => False) A a l) (hq : Lst SetE w (fun _ => False) B b m) :
    Calls Try.prog 46 #[.slice A l.length a, .slice B m.length b] w (Pure w (.bool (decide (l = m)))) := by
  have HP := Lib.hid hp
  have HQ := Lib.hid hq
  have h1 := hp.le
  have h2 := hp.max
  have h3 := hq.le
  have h4 := hq.max
  clear hp hq
  generalize hr : decide (l = m) = res
  have HR := Lib.hid hr
  clear hr
  by_cases hlm : l.length = m.length
  · have HEQ := Lib.hid (eq_getDS hlm)
    rw [← hlm] at h3 ⊢
    generalize hn : l.length = n at *
    have HN := Lib.hid hn
    have HM := Lib.hid hlm.symm
    clear hn hlm
    go_enter Try.func46, Try.ntmps46
    go_wp2_with fail
    go_loopg [5] n (fun gk i wr => ∃ p : Nat, p ≤ n ∧ gk = n - p ∧ i = .int .i64 (p : Int) ∧ Hid (∀ i, i < p → l.getD i zeroSet = m.getD i zeroSet) ∧ Below w.heap.size w wr)
    case atStart => exact ⟨0, by omega, rfl, rfl, fun i h => by omega, Below.refl _ _⟩
    case round =>
      obtain ⟨p, hp, rfl, rfl, HI, hb⟩ := hrel
      have HW := Lib.hid hb
      have HG0 := Lib.hid (Since.drew hb)
      clear hb
      by_cases hlt : p < n
      · have i1 : (p : Int) < (n : Int) := by omega
        have i0 : (0 : Int) ≤ (p : Int) := by omega
        obtain ⟨bk, off, A1, a1, B1, b1, rfl, hbk, c0, c1, c2, s1, s2⟩ := HP.out.set p _ (getD_get zeroSet (by rw [HN.out]; exact hlt))
        obtain ⟨ck, cff, A2, a2, B2, b2, rfl, hck, d0, d1, d2, u1, u2⟩ := HQ.out.set p _ (getD_get zeroSet (by rw [HM.out]; exact hlt))
        have y0 := Since.cell c0 hbk
        have z0 := Since.cell d0 hck
        have Y1 := Lib.hid (Since.cell c1 hbk)
        have Z1 := Lib.hid (Since.cell d1 hck)
        have Y2 := Lib.hid (Since.cell c2 hbk)
        have Z2 := Lib.hid (Since.cell d2 hck)
        have V1 := Lib.hid (Since.bytes s1.1 u1.1)
        have V2 := Lib.hid (Since.bytes s2.1 u2.1)
        have HT : Hid (decide ((l.getD p zeroSet).1 = (m.getD p zeroSet).1) = true → decide ((l.getD p zeroSet).2.1 = (m.getD p zeroSet).2.1) = true → (l.getD p zeroSet).2.2 = (m.getD p zeroSet).2.2 → ∀ i, i < p + 1 → l.getD i zeroSet = m.getD i zeroSet) := Lib.hid (fun h1 h2 h3 i hi => by
          rcases Nat.lt_or_ge i p with h | h
          · exact HI.out i h
          · have : i = p := by omega
            subst this
            exact Prod.ext (of_decide_eq_true h1) (Prod.ext (of_decide_eq_true h2) h3))
        have HF : Hid (decide ((l.getD p zeroSet).1 = (m.getD p zeroSet).1) = false ∨ decide ((l.getD p zeroSet).2.1 = (m.getD p zeroSet).2.1) = false ∨ (l.getD p zeroSet).2.2 ≠ (m.getD p zeroSet).2.2 → res = false) := Lib.hid (fun hf => by
          rw [← HR.out]
          exact decide_eq_false (fun h => by rw [h] at hf; simp at hf))
        clear c0 c1 c2 d0 d1 d2 s1 s2 u1 u2 hbk hck
        generalize decide ((l.getD p zeroSet).1 = (m.getD p zeroSet).1) = t1 at *
        generalize decide ((l.getD p zeroSet).2.1 = (m.getD p zeroSet).2.1) = t2 at *
        generalize (l.getD p zeroSet).1.length = q1 at *
        generalize (l.getD p zeroSet).2.1.length = q2 at *
        generalize (m.getD p zeroSet).1.length = q5 at *
        generalize (m.getD p zeroSet).2.1.length = q6 at *
        generalize (l.getD p zeroSet).2.2 = q3 at *
        generalize (m.getD p zeroSet).2.2 = q4 at *
        go_wp2_with fail
        refine wp_region_quiet_cls (Since w) (by kernel_rfl) (by kernel_rfl) HG0.out ?_
        repeat (go_big_quiet_step ((go_at_call 15; exact calls_cls Since.step (V1.out _))))
        refine wpQuiet_nil ?_
        intro _ hw'
        obtain ⟨nq, hw''⟩ := hw'
        subst hw''
        have HG1 := Lib.hid (Since.drew (w := w) (W := nq.W) nq.ok)
        have y1 := Y1.out
        have z1 := Z1.out
        clear y0 z0
        go_wp2_with fail
        refine wp_region_quiet_cls (Since w) (by kernel_rfl) (by kernel_rfl) HG1.out ?_
        repeat (go_big_quiet_step ((go_at_call 15; exact calls_cls Since.step (V2.out _))))
        refine wpQuiet_nil ?_
        intro _ hw'
        obtain ⟨nq2, hw''⟩ := hw'
        subst hw''
        have HG2 := Lib.hid (Since.drew (w := w) (W := nq2.W) nq2.ok)
        have y2 := Y2.out
        have z2 := Z2.out
        clear y1 z1
        have key : (t1 = false ∧ Hid (res = false)) ∨ (t1 = true ∧ t2 = false ∧ Hid (res = false)) ∨ (t1 = true ∧ t2 = true ∧ q3 = true ∧ q4 = false ∧ Hid (res = false)) ∨ (t1 = true ∧ t2 = true ∧ q3 = false ∧ q4 = true ∧ Hid (res = false)) ∨ (t1 = true ∧ t2 = true ∧ q3 = q4) := by
          cases t1
          · exact .inl ⟨rfl, HF.out (by simp)⟩
          · cases t2
            · exact .inr (.inl ⟨rfl, rfl, HF.out (by simp)⟩)
            · cases q3 <;> cases q4
              · exact .inr (.inr (.inr (.inr ⟨rfl, rfl, rfl⟩)))
              · exact .inr (.inr (.inr (.inl ⟨rfl, rfl, rfl, rfl, HF.out (by simp)⟩)))
              · exact .inr (.inr (.inl ⟨rfl, rfl, rfl, rfl, HF.out (by simp)⟩))
              · exact .inr (.inr (.inr (.inr ⟨rfl, rfl, rfl⟩)))
        rcases key with ⟨rfl, HE⟩ | ⟨rfl, rfl, HE⟩ | ⟨rfl, rfl, rfl, rfl, HE⟩ | ⟨rfl, rfl, rfl, rfl, HE⟩ | ⟨rfl, rfl, rfl⟩
        rotate_right
        · have HT2 : Hid (∀ i, i < p + 1 → l.getD i zeroSet = m.getD i zeroSet) := Lib.hid (HT.out (by first | rfl | trivial) (by first | rfl | trivial) (by first | rfl | trivial))
          have e3 : (q3 != q3) = false := by simp
          clear HT HF
          go_wp2_with fail
          refine wp_region_quiet_cls (Since w) (by kernel_rfl) (by kernel_rfl) HG2.out ?_
          repeat (go_big_quiet_step (fail))
          refine wpQuiet_nil ?_
          intro _ hw'
          obtain ⟨nq3, hw''⟩ := hw'
          subst hw''
          have Q3 := Lib.hid (show Below w.heap.size w nq3.W from nq3.ok)
          go_wp2_with fail
          go_roundg (n - (p + 1))
          case measure => omega
          case rel => exact ⟨p + 1, by omega, rfl, by go_num, HT2, Q3.out⟩
        all_goals
          clear HT HF
          go_wp2_with fail
          refine wp_region_quiet_cls (Since w) (by kernel_rfl) (by kernel_rfl) HG2.out ?_
          repeat (go_big_quiet_step (fail))
          refine wpQuiet_nil ?_
          intro _ hw'
          obtain ⟨nq3, hw''⟩ := hw'
          subst hw''
          have Q3 := Lib.hid (show Below w.heap.size w nq3.W from nq3.ok)
          go_wp2_with fail
          go_ret
          exact ⟨ret_bool HE.out.symm, Q3.out⟩
      · obtain rfl : p = n := by omega
        have i1 : ¬ (p : Int) < (p : Int) := by omega
        have HE : Hid (res = true) := Lib.hid (by rw [← HR.out]; exact decide_eq_true (HEQ.out.2 HI.out))
        go_wp2_with fail
        go_ret
        exact ⟨ret_bool HE.out.symm, HW.out⟩
  · have HE : Hid (res = false) := Lib.hid (by rw [← HR.out]; exact decide_eq_false (fun h => hlm (by rw [h])))
    have hb : ((l.length : Int) != (m.length : Int)) = true := by simp; omega
    generalize l.length = n at *
    generalize m.length = q at *
    go_enter Try.func46, Try.ntmps46
    go_wp2_with fail
    go_ret
    exact ⟨ret_bool HE.out.symm, Below.refl _ _⟩
end Go.Proofs.Ytnhfeoniiadjfaa.Lst
/- A list of the call's own as the bytes of its block. -/
namespace Go.Proofs.Ytnhfeoniiadjfaa.Lst
open Go.RowKit Go.Proofs.Ytnhfeoniiadjfaa.K Go.Proofs.Ytnhfeoniiadjfaa.Help Go.Proofs.Ytnhfeoniiadjfaa.Pfx Go.Proofs.Ytnhfeoniiadjfaa.Peer
set_option linter.unusedVariables false

theorem own_byt {w : World} {B : Nat} {v : Value} {L : List UInt8} (h : Own w B v L) (hl : 0 < L.length) : ∃ g c, v = .slice (some ⟨g, 0, none⟩) L.length c ∧ B ≤ g ∧ L.length ≤ c ∧ c ≤ 9223372036854775807 ∧ Byt w g L := by
  rcases h.1.2 with ⟨rfl, h0⟩ | ⟨g, cap, cur, rfl, hb, hh, hn, hm, hs, ht⟩
  · omega
  · refine ⟨g, cap, rfl, hb, hn, by simpa [maxLen] using hm, _, hh, fun i hi => ?_⟩
    have hc := h.1.cells (g := g) rfl i (.int .u8 ((L.getD i 0).toNat : Int)) (by simp [u8s, u8, hi])
    rw [addr_add_plain] at hc
    rw [← blk_cell hh]
    exact hc
end Go.Proofs.Ytnhfeoniiadjfaa.Lst
/- Facts that stay when new memory is made: one word for all of them. -/
namespace Go.Proofs.Ytnhfeoniiadjfaa.Lst
open Go.RowKit Go.Proofs.Ytnhfeoniiadjfaa.K Go.Proofs.Ytnhfeoniiadjfaa.Help Go.Proofs.Ytnhfeoniiadjfaa.Pfx Go.Proofs.Ytnhfeoniiadjfaa.Peer
set_option linter.unusedVariables false

/-- what stays when old memory stays: p of w, q of w' -/
class Stb (w w' : World) (p : Prop) (q : outParam Prop) : Prop where
  keep : p → Below w.heap.size w w' → q
section
variable {w w' : World}
instance stb_and {p q r s : Prop} [Stb w w' p q] [Stb w w' r s] : Stb w w' (p ∧ r) (q ∧ s) := ⟨fun h hb => ⟨Stb.keep h.1 hb, Stb.keep h.2 hb⟩⟩
instance stb_true : Stb w w' True True := ⟨fun h _ => h⟩
instance stb_bs {A : Option Addr} {c : Nat} {l : List UInt8} : Stb w w' (Bs w A c l) (Bs w' A c l) := ⟨fun h hb => h.below hb⟩
instance stb_bsn {N : Nat → Prop} {A : Option Addr} {c : Nat} {l : List UInt8} : Stb w w' (BsN w N A c l) (BsN w' N A c l) := ⟨fun h hb => h.below hb⟩
instance stb_own {B : Nat} {v : Value} {l : List UInt8} : Stb w w' (Own w B v l) (Own w' B v l) := ⟨fun h hb => h.below hb⟩
instance stb_lst {α : Type} {E : Elem α} {N : Nat → Prop} {A : Option Addr} {c : Nat} {l : List α} : Stb w w' (Lst E w N A c l) (Lst E w' N A c l) := ⟨fun h hb => h.below hb⟩
instance stb_ownl {α : Type} {E : Elem α} {t : TypeId} {N : Nat → Prop} {B : Nat} {v : Value} {l : List α} : Stb w w' (OwnL E t w N B v l) (OwnL E t w' N B v l) := ⟨fun h hb => h.below hb⟩
instance stb_below {w0 : World} : Stb w w' (Below w0.heap.size w0 w) (Below w0.heap.size w0 w') := ⟨fun h hb => below_step h hb⟩
instance stb_blk {g : Nat} {o : Obj} : Stb w w' (w.heap[g]? = some o) (w'.heap[g]? = some o) := ⟨fun h hb => (hb.block g (blk_lt h)).trans h⟩
instance stb_byt {g : Nat} {l : List UInt8} : Stb w w' (Byt w g l) (Byt w' g l) := ⟨fun h hb => h.keep hb⟩
instance stb_ttab {p b n : Nat} {l : List RowD} : Stb w w' (TTab w p b n l) (TTab w' p b n l) := ⟨fun h hb => h.keep hb⟩
instance stb_tmap {b n : Nat} {l : List RowD} : Stb w w' (TMap w b n l) (TMap w' b n l) := ⟨fun h hb => h.keep hb⟩
instance stb_titer {g b : Nat} {l : List RowD} : Stb w w' (TIter w g b l) (TIter w' g b l) := ⟨fun h hb => h.keep hb⟩
instance stb_tover {p b n c m : Nat} {l q : List RowD} : Stb w w' (TOver w p b n l c m q) (TOver w' p b n l c m q) := ⟨fun h hb => h.keep hb⟩
theorem rows_below {B n sz : Nat} {t : TypeId} {v : Value} {xs : List Value} (h : w.ownsRow B t sz v n xs) (hb : Below w.heap.size w w') : w'.ownsRow B t sz v n xs := by
  refine ⟨h.1, ?_⟩
  rcases h.2 with h2 | ⟨g, cap, cur, hv, hg, hh, r⟩
  · exact .inl h2
  · exact .inr ⟨g, cap, cur, hv, hg, (hb.block g (blk_lt hh)).trans hh, r⟩
instance stb_rows {B n sz : Nat} {t : TypeId} {v : Value} {xs : List Value} : Stb w w' (w.ownsRow B t sz v n xs) (w'.ownsRow B t sz v n xs) := ⟨fun h hb => rows_below h hb⟩
theorem hkeep {p q : Prop} (hb : Below w.heap.size w w') (h : Hid p) [Stb w w' p q] : Hid q := Lib.hid (Stb.keep h.out hb)
end
theorem hand {p q : Prop} (h : Hid p) (k : q) : Hid (q ∧ p) := Lib.hid ⟨k, h.out⟩
theorem hstart {p : Prop} (k : p) : Hid (p ∧ True) := Lib.hid ⟨k, trivial⟩
example {w w1 w0 : World} {A : Option Addr} {l : List UInt8} (hb : Below w.heap.size w w1) (S : Hid (Bs w A 3 l ∧ Below w0.heap.size w0 w ∧ True)) : Hid (Bs w1 A 3 l ∧ Below w0.heap.size w0 w1 ∧ True) := by
  have S := hkeep hb S
  exact S
/-- a block may be written over without harm to bytes: it is cells of another type -/
def NotU8 (w : World) (i : Nat) : Prop := ∃ cs t fr, w.heap[i]? = some (.cells cs t fr) ∧ t ≠ 5
theorem Byt.far {w w' : World} {g : Nat} {L : List UInt8} {T : Nat → Prop} (h : Byt w g L) (k : Only w w' T) (hT : ∀ i, T i → i < w.heap.size → NotU8 w i) : Byt w' g L :=
  h.only k (fun ht => by
    obtain ⟨cs, t, fr, h1, h2⟩ := hT g ht h.lt
    obtain ⟨cs', h3, _⟩ := h
    rw [h3] at h1
    injection h1 with h1
    injection h1 with _ h1 _
    exact h2 h1.symm)
theorem rows_notU8 {w : World} {B n sz : Nat} {t : TypeId} {v : Value} {xs : List Value} (h : w.ownsRow B t sz v n xs) (ht : t ≠ 5) {i : Nat} (hi : v.ownBlock = some i) : NotU8 w i := by
  rcases h.2 with ⟨rfl, _⟩ | ⟨g, cap, cur, rfl, _, hh, _⟩
  · simp [Value.ownBlock] at hi
  · have : g = i := by simpa [Value.ownBlock] using hi
    subst this
    exact ⟨_, _, _, hh, ht⟩
theorem rows_lt {w : World} {B n sz : Nat} {t : TypeId} {v : Value} {xs : List Value} (h : w.ownsRow B t sz v n xs) {i : Nat} (hi : v.ownBlock = some i) : i < w.heap.size := by
  rcases h.2 with ⟨rfl, _⟩ | ⟨g, cap, cur, rfl, _, hh, _⟩
  · simp [Value.ownBlock] at hi
  · have : g = i := by simpa [Value.ownBlock] using hi
    subst this
    exact blk_lt hh
theorem rows_base {w : World} {B n sz : Nat} {t : TypeId} {v : Value} {xs : List Value} (h : w.ownsRow B t sz v n xs) {i : Nat} (hi : v.ownBlock = some i) : B ≤ i := by
  rcases h.2 with ⟨rfl, _⟩ | ⟨g, cap, cur, rfl, hb, hh, _⟩
  · simp [Value.ownBlock] at hi
  · have : g = i := by simpa [Value.ownBlock] using hi
    omega
theorem rows_blk {w : World} {B n sz : Nat} {t : TypeId} {v : Value} {xs : List Value} (h : w.ownsRow B t sz v n xs) {i : Nat} (hi : v.ownBlock = some i) : ∃ cs, w.heap[i]? = some (.cells cs t (0, 0)) := by
  rcases h.2 with ⟨rfl, _⟩ | ⟨g, cap, cur, rfl, hb, hh, _⟩
  · simp [Value.ownBlock] at hi
  · have : g = i := by simpa [Value.ownBlock] using hi
    subst this
    exact ⟨_, hh⟩
end Go.Proofs.Ytnhfeoniiadjfaa.Lst
/- GetSets, plain: what the program and the document read off bytes. -/
namespace Go.Proofs.Ytnhfeoniiadjfaa.Lst
open Go.RowKit Go.Proofs.Ytnhfeoniiadjfaa.K Go.Proofs.Ytnhfeoniiadjfaa.Help Go.Proofs.Ytnhfeoniiadjfaa.Pfx Go.Proofs.Ytnhfeoniiadjfaa.Peer
set_option linter.unusedVariables false

/-- the document's reading of one set at place p: the set, the place behind -/
def rdS (L : List UInt8) (p : Nat) : Option (SetD × Nat) :=
  if L.length - p < 4 ∨ 1 < (L.getD p 0).toNat then none
  else if L.length - p - 4 < (L.getD (p + 1) 0).toNat + ((L.getD (p + 2) 0).toNat * 256 + (L.getD (p + 3) 0).toNat) then none
  else
    let k := (L.getD (p + 1) 0).toNat
    let v := (L.getD (p + 2) 0).toNat * 256 + (L.getD (p + 3) 0).toNat
    let s : SetD := (cutN L (p + 4) k, cutN L (p + 4 + k) v, decide ((L.getD p 0).toNat = 0))
    if mayB s = true then some (s, p + 4 + k + v) else none
/-- the program's: by a reader -/
def tkA (L : List UInt8) (p : Nat) := takes L p 1 0
def tkB (L : List UInt8) (p : Nat) := takes L (tkA L p).2.2.1 1 (tkA L p).2.2.2
def tkC (L : List UInt8) (p : Nat) := takes L (tkB L p).2.2.1 2 (tkB L p).2.2.2
def tkD (L : List UInt8) (p : Nat) := takes L (tkC L p).2.2.1 (val (tkB L p).1) (tkC L p).2.2.2
def tkE (L : List UInt8) (p : Nat) := takes L (tkD L p).2.2.1 (val (tkC L p).1) (tkD L p).2.2.2
def rdG (L : List UInt8) (p : Nat) : Option (SetD × Nat) :=
  if (tkE L p).2.2.2 ≠ 0 ∨ 1 < val (tkA L p).1 ∨ mayN (tkD L p).1.length (tkE L p).1.length (decide (val (tkA L p).1 = 0)) = false then none
  else some (((tkD L p).1, (tkE L p).1, decide (val (tkA L p).1 = 0)), (tkE L p).2.2.1)
/-- the next key rises -/
def okK (l : List SetD) (k : List UInt8) : Bool := decide (l.length = 0) || decide ((l.getD (l.length - 1) zeroSet).1 < k)
def setsGo (L : List UInt8) : Nat → Nat → List SetD → List SetD × Int
  | 0, _, _ => ([], 114)
  | f + 1, p, l => if p < L.length then (match rdS L p with | none => ([], 114) | some (s, q) => if okK l s.1 = true then setsGo L f q (l ++ [s]) else ([], 114)) else (l, 0)
def getSetsD (L : List UInt8) : List SetD × Int := setsGo L (L.length + 1) 0 []
theorem setsGo_end {L : List UInt8} {f p : Nat} {l : List SetD} (h : ¬ p < L.length) : setsGo L (f + 1) p l = (l, 0) := by
  rw [setsGo, if_neg h]
theorem setsGo_none {L : List UInt8} {f p : Nat} {l : List SetD} (h : p < L.length) (h2 : rdS L p = none) : setsGo L (f + 1) p l = ([], 114) := by
  rw [setsGo, if_pos h, h2]
theorem setsGo_some {L : List UInt8} {f p q : Nat} {l : List SetD} {s : SetD} (h : p < L.length) (h2 : rdS L p = some (s, q)) : setsGo L (f + 1) p l = if okK l s.1 = true then setsGo L f q (l ++ [s]) else ([], 114) := by
  rw [setsGo, if_pos h, h2]
theorem rdS_some {L : List UInt8} {p q : Nat} {s : SetD} (h : rdS L p = some (s, q)) : p + 4 ≤ q ∧ q ≤ L.length ∧ mayB s = true ∧ p + 4 ≤ L.length ∧ (L.getD p 0).toNat ≤ 1 ∧ s = (cutN L (p + 4) (L.getD (p + 1) 0).toNat, cutN L (p + 4 + (L.getD (p + 1) 0).toNat) ((L.getD (p + 2) 0).toNat * 256 + (L.getD (p + 3) 0).toNat), decide ((L.getD p 0).toNat = 0)) ∧ q = p + 4 + (L.getD (p + 1) 0).toNat + ((L.getD (p + 2) 0).toNat * 256 + (L.getD (p + 3) 0).toNat) := by
  unfold rdS at h
  split at h
  · cases h
  · split at h
    · cases h
    · simp only at h
      split at h
      · rename_i h1 h2 h3
        injection h with h
        injection h with h4 h5
        subst h4 h5
        exact ⟨by omega, by omega, h3, by omega, by omega, rfl, rfl⟩
      · cases h
theorem cutN_one {L : List UInt8} {p : Nat} (h : p + 1 ≤ L.length) : val (cutN L p 1) = (L.getD p 0).toNat := by
  unfold cutN
  rw [List.drop_eq_getElem_cons (by omega), List.take_succ_cons, List.take_zero]
  simp [val, show p < L.length by omega]
theorem cutN_two {L : List UInt8} {p : Nat} (h : p + 2 ≤ L.length) : val (cutN L p 2) = (L.getD p 0).toNat * 256 + (L.getD (p + 1) 0).toNat := by
  unfold cutN
  rw [List.drop_eq_getElem_cons (by omega), List.drop_eq_getElem_cons (show p + 1 < L.length by omega), List.take_succ_cons, List.take_succ_cons, List.take_zero]
  simp [val, show p < L.length by omega, show p + 1 < L.length by omega]
theorem takes_bad (L : List UInt8) (p n : Nat) (err : Int) (h : err ≠ 0) : takes L p n err = ([], false, p, err) := by unfold takes; simp [h]
theorem takes_few (L : List UInt8) (p n : Nat) (h : L.length - p < n) : takes L p n 0 = ([], false, p, 10) := by unfold takes; simp [h]
theorem takes_ok (L : List UInt8) (p n : Nat) (h : ¬ L.length - p < n) : takes L p n 0 = (cutN L p n, true, p + n, 0) := by unfold takes; simp [h]
theorem ten : (10 : Int) ≠ 0 := by decide
theorem rdG_eq (L : List UInt8) (p : Nat) (hp : p < L.length) : rdG L p = rdS L p := by
  have eA : tkA L p = (cutN L p 1, true, p + 1, 0) := takes_ok L p 1 (by omega)
  have vA : val (cutN L p 1) = (L.getD p 0).toNat := cutN_one (by omega)
  by_cases h2 : L.length - p < 2
  · have eB : tkB L p = ([], false, p + 1, 10) := by unfold tkB; rw [eA]; exact takes_few L (p + 1) 1 (by omega)
    have eC : tkC L p = ([], false, p + 1, 10) := by unfold tkC; rw [eB]; exact takes_bad _ _ _ _ ten
    have eD : tkD L p = ([], false, p + 1, 10) := by unfold tkD; rw [eC]; exact takes_bad _ _ _ _ ten
    have eE : tkE L p = ([], false, p + 1, 10) := by unfold tkE; rw [eD]; exact takes_bad _ _ _ _ ten
    unfold rdG rdS
    rw [eE, if_pos (.inl ten), if_pos (.inl (by omega))]
  · have eB : tkB L p = (cutN L (p + 1) 1, true, p + 2, 0) := by unfold tkB; rw [eA]; exact takes_ok L (p + 1) 1 (by omega)
    have vB : val (cutN L (p + 1) 1) = (L.getD (p + 1) 0).toNat := cutN_one (by omega)
    by_cases h4 : L.length - p < 4
    · have eC : tkC L p = ([], false, p + 2, 10) := by unfold tkC; rw [eB]; exact takes_few L (p + 2) 2 (by omega)
      have eD : tkD L p = ([], false, p + 2, 10) := by unfold tkD; rw [eC]; exact takes_bad _ _ _ _ ten
      have eE : tkE L p = ([], false, p + 2, 10) := by unfold tkE; rw [eD]; exact takes_bad _ _ _ _ ten
      unfold rdG rdS
      rw [eE, if_pos (.inl ten), if_pos (.inl (by omega))]
    · have eC : tkC L p = (cutN L (p + 2) 2, true, p + 4, 0) := by unfold tkC; rw [eB]; exact takes_ok L (p + 2) 2 (by omega)
      have vC : val (cutN L (p + 2) 2) = (L.getD (p + 2) 0).toNat * 256 + (L.getD (p + 3) 0).toNat := cutN_two (by omega)
      have hD : tkD L p = takes L (p + 4) (L.getD (p + 1) 0).toNat 0 := by unfold tkD; rw [eC, eB, vB]
      have hE : tkE L p = takes L (tkD L p).2.2.1 ((L.getD (p + 2) 0).toNat * 256 + (L.getD (p + 3) 0).toNat) (tkD L p).2.2.2 := by unfold tkE; rw [eC, vC]
      generalize hk : (L.getD (p + 1) 0).toNat = k at *
      generalize hv : (L.getD (p + 2) 0).toNat * 256 + (L.getD (p + 3) 0).toNat = v at *
      by_cases h5 : L.length - p - 4 < k + v
      · have eE : (tkE L p).2.2.2 = 10 := by
          by_cases h6 : L.length - (p + 4) < k
          · rw [hE, hD, takes_few L (p + 4) k h6, takes_bad _ _ _ _ ten]
          · rw [hE, hD, takes_ok L (p + 4) k h6, takes_few L (p + 4 + k) v (by omega)]
        unfold rdG rdS
        rw [eE, if_pos (.inl ten)]
        by_cases h7 : 1 < (L.getD p 0).toNat
        · rw [if_pos (.inr h7)]
        · rw [if_neg (show ¬ (L.length - p < 4 ∨ 1 < (L.getD p 0).toNat) by omega), hk, hv, if_pos (by omega)]
      · have eD : tkD L p = (cutN L (p + 4) k, true, p + 4 + k, 0) := by rw [hD]; exact takes_ok L (p + 4) k (by omega)
        have eE : tkE L p = (cutN L (p + 4 + k) v, true, p + 4 + k + v, 0) := by rw [hE, eD]; exact takes_ok L (p + 4 + k) v (by omega)
        unfold rdG rdS
        rw [eE, eD, eA, vA]
        simp only
        by_cases h7 : 1 < (L.getD p 0).toNat
        · rw [if_pos (.inr (.inl h7)), if_pos (.inr h7)]
        · rw [if_neg (show ¬ (L.length - p < 4 ∨ 1 < (L.getD p 0).toNat) by omega), hk, hv, if_neg (show ¬ (L.length - p - 4 < k + v) by omega)]
          by_cases hm : mayB (cutN L (p + 4) k, cutN L (p + 4 + k) v, decide ((L.getD p 0).toNat = 0)) = true
          · have hm2 : mayN (cutN L (p + 4) k).length (cutN L (p + 4 + k) v).length (decide ((L.getD p 0).toNat = 0)) = true := hm
            rw [if_pos hm, if_neg (by rw [hm2]; rintro (h | h | h); exact h rfl; exact h7 h; cases h)]
          · have hm2 : mayN (cutN L (p + 4) k).length (cutN L (p + 4 + k) v).length (decide ((L.getD p 0).toNat = 0)) = false := by
              simpa using show ¬ mayN (cutN L (p + 4) k).length (cutN L (p + 4 + k) v).length (decide ((L.getD p 0).toNat = 0)) = true from hm
            rw [if_neg hm, if_pos (.inr (.inr hm2))]
theorem setsGo_len {L : List UInt8} : ∀ (f p : Nat) (l : List SetD), p ≤ L.length → l.length ≤ p → (setsGo L f p l).1.length ≤ L.length
  | 0, p, l, hp, hl => by simp [setsGo]
  | f + 1, p, l, hp, hl => by
    by_cases h : p < L.length
    · cases hs : rdS L p with
      | none => rw [setsGo_none h hs]; simp
      | some x =>
        obtain ⟨s, q⟩ := x
        obtain ⟨h1, h2, _⟩ := rdS_some hs
        rw [setsGo_some h hs]
        split
        · exact setsGo_len f q _ h2 (by simp; omega)
        · simp
    · rw [setsGo_end h]; simp; omega
end Go.Proofs.Ytnhfeoniiadjfaa.Lst
/- There and back, plain: what PutSets writes GetSets reads, and what GetSets takes PutSets writes. -/
namespace Go.Proofs.Ytnhfeoniiadjfaa.Lst
open Go.RowKit Go.Proofs.Ytnhfeoniiadjfaa.K Go.Proofs.Ytnhfeoniiadjfaa.Help Go.Proofs.Ytnhfeoniiadjfaa.Pfx Go.Proofs.Ytnhfeoniiadjfaa.Peer
set_option linter.unusedVariables false

theorem be1 (x : Nat) : be 1 x = [UInt8.ofNat x] := by simp [be]
theorem be2 (x : Nat) : be 2 x = [UInt8.ofNat (x / 256), UInt8.ofNat x] := by simp [be]
theorem ofNat_small {x : Nat} (h : x < 256) : (UInt8.ofNat x).toNat = x := by rw [UInt8.toNat_ofNat']; omega
theorem ofNat_mod (x : Nat) : (UInt8.ofNat x).toNat = x % 256 := by rw [UInt8.toNat_ofNat']
theorem rowB_cons (s : SetD) : rowB s = UInt8.ofNat (kindB s.2.2) :: UInt8.ofNat s.1.length :: UInt8.ofNat (s.2.1.length / 256) :: UInt8.ofNat s.2.1.length :: (s.1 ++ s.2.1) := by
  unfold rowB
  rw [be1, be1, be2]
  simp
theorem getD_app (A B : List UInt8) (i : Nat) : (A ++ B).getD (A.length + i) 0 = B.getD i 0 := by
  simp only [List.getD_eq_getElem?_getD]
  rw [List.getElem?_append_right (by omega), Nat.add_sub_cancel_left]
theorem cutN_app (A B : List UInt8) (i n : Nat) : cutN (A ++ B) (A.length + i) n = cutN B i n := by
  unfold cutN
  rw [List.drop_append, List.drop_eq_nil_of_le (by omega), Nat.add_sub_cancel_left, List.nil_append]
theorem kindB_le (g : Bool) : kindB g ≤ 1 := by unfold kindB; split <;> omega
theorem rdS_row (A R : List UInt8) (s : SetD) (hm : mayB s = true) : rdS (A ++ (rowB s ++ R)) A.length = some (s, A.length + (rowB s).length) := by
  obtain ⟨h1, h2, h3⟩ := mayB_le hm
  obtain ⟨k, v, g⟩ := s
  simp only at h1 h2 h3
  have hg := kindB_le g
  have e0 : (A ++ (rowB (k, v, g) ++ R)).getD A.length 0 = UInt8.ofNat (kindB g) := by
    have := getD_app A (rowB (k, v, g) ++ R) 0
    rw [Nat.add_zero] at this
    rw [this, rowB_cons]; rfl
  have e1 : (A ++ (rowB (k, v, g) ++ R)).getD (A.length + 1) 0 = UInt8.ofNat k.length := by rw [getD_app, rowB_cons]; rfl
  have e2 : (A ++ (rowB (k, v, g) ++ R)).getD (A.length + 2) 0 = UInt8.ofNat (v.length / 256) := by rw [getD_app, rowB_cons]; rfl
  have e3 : (A ++ (rowB (k, v, g) ++ R)).getD (A.length + 3) 0 = UInt8.ofNat v.length := by rw [getD_app, rowB_cons]; rfl
  have hl : (rowB (k, v, g)).length = 4 + k.length + v.length := by rw [rowB_cons]; simp; omega
  have hL : (A ++ (rowB (k, v, g) ++ R)).length = A.length + (4 + k.length + v.length) + R.length := by rw [List.length_append, List.length_append, hl]; omega
  have ev : (UInt8.ofNat (v.length / 256)).toNat * 256 + (UInt8.ofNat v.length).toNat = v.length := by rw [ofNat_mod, ofNat_mod]; omega
  have ek : (UInt8.ofNat k.length).toNat = k.length := ofNat_small (by omega)
  have eg : (UInt8.ofNat (kindB g)).toNat = kindB g := ofNat_small (by omega)
  have c1 : cutN (A ++ (rowB (k, v, g) ++ R)) (A.length + 4) k.length = k := by
    rw [cutN_app, rowB_cons]
    unfold cutN
    simp
  have c2 : cutN (A ++ (rowB (k, v, g) ++ R)) (A.length + 4 + k.length) v.length = v := by
    rw [Nat.add_assoc, cutN_app, rowB_cons]
    unfold cutN
    rw [show 4 + k.length = k.length + 1 + 1 + 1 + 1 by omega]
    simp
  unfold rdS
  rw [e0, e1, e2, e3, eg, ek, ev, hL, if_neg (by omega), if_neg (by omega)]
  simp only
  rw [c1, c2]
  have hd : decide (kindB g = 0) = g := by unfold kindB; cases g <;> simp
  rw [hd, if_pos hm, hl]
  congr 2
  omega
theorem okK_take (l : List SetD) (k : Nat) (hk : k < l.length) (h : okAtS l k = true) : okK (l.take k) (l.getD k zeroSet).1 = true := by
  unfold okAtS at h
  rw [Bool.and_eq_true] at h
  have h2 := h.2
  unfold okK
  rw [List.length_take, Nat.min_eq_left (by omega)]
  rw [Bool.or_eq_true, decide_eq_true_eq, decide_eq_true_eq] at h2 ⊢
  rcases h2 with h2 | h2
  · exact .inl h2
  · rcases Nat.eq_zero_or_pos k with h0 | h0
    · exact .inl h0
    · refine .inr ?_
      have : (l.take k).getD (k - 1) zeroSet = l.getD (k - 1) zeroSet := by
        simp [show k - 1 < k by omega]
      rw [this]; exact h2
theorem setsGo_rows (l : List SetD) (h : okS l l.length = true) : ∀ (d k f : Nat), d = l.length - k → k ≤ l.length → d < f → setsGo (l.flatMap rowB) f ((l.take k).flatMap rowB).length (l.take k) = (l, 0) := by
  have hall : ∀ k, k < l.length → okAtS l k = true := by unfold okS at h; exact of_decide_eq_true h
  intro d
  induction d with
  | zero =>
    intro k f hd hk hf
    obtain rfl : k = l.length := by omega
    obtain ⟨f, rfl⟩ : ∃ m, f = m + 1 := ⟨f - 1, by omega⟩
    rw [List.take_of_length_le (Nat.le_refl _), setsGo_end (by omega)]
  | succ d ih =>
    intro k f hd hk hf
    have hlt : k < l.length := by omega
    obtain ⟨f, rfl⟩ : ∃ m, f = m + 1 := ⟨f - 1, by omega⟩
    have hok := hall k hlt
    have hm : mayB (l.getD k zeroSet) = true := by unfold okAtS at hok; rw [Bool.and_eq_true] at hok; exact hok.1
    have hs : l.flatMap rowB = (l.take k).flatMap rowB ++ (rowB (l.getD k zeroSet) ++ (l.drop (k + 1)).flatMap rowB) := by
      have e : l = l.take k ++ (l.getD k zeroSet :: l.drop (k + 1)) := by
        have : l.getD k zeroSet = l[k] := by simp [hlt]
        rw [this, ← List.drop_eq_getElem_cons hlt, List.take_append_drop]
      conv => lhs; rw [e]
      rw [List.flatMap_append, List.flatMap_cons]
    have hst := rdS_row ((l.take k).flatMap rowB) ((l.drop (k + 1)).flatMap rowB) _ hm
    rw [← hs] at hst
    have hp : ((l.take k).flatMap rowB).length < (l.flatMap rowB).length := by
      rw [hs, List.length_append, List.length_append, rowB_cons]; simp; omega
    rw [setsGo_some hp hst, if_pos (okK_take l k hlt hok)]
    have e2 : l.take k ++ [l.getD k zeroSet] = l.take (k + 1) := by
      have : l.getD k zeroSet = l[k] := by simp [hlt]
      rw [this, List.take_succ_eq_append_getElem hlt]
    rw [e2, ← List.length_append, ← flat_step l k hlt]
    exact ih (k + 1) f (by omega) (by omega) (by omega)
/-- P13.5: what PutSets writes GetSets reads back -/
theorem get_put (l : List SetD) (h : okS l l.length = true) : getSetsD (l.flatMap rowB) = (l, 0) := by
  have hle : l.length ≤ (l.flatMap rowB).length := by
    have : ∀ m : List SetD, m.length ≤ (m.flatMap rowB).length := by
      intro m
      induction m with
      | nil => simp
      | cons x r ih => rw [List.flatMap_cons, List.length_append, rowB_cons]; simp only [List.length_cons]; omega
    exact this l
  have := setsGo_rows l h l.length 0 ((l.flatMap rowB).length + 1) (by omega) (by omega) (by omega)
  simpa [getSetsD] using this
theorem rowB_step {L : List UInt8} {p q : Nat} {s : SetD} (h : rdS L p = some (s, q)) : L.take q = L.take p ++ rowB s := by
  obtain ⟨h1, h2, h3, h4, h5, h6, h7⟩ := rdS_some h
  generalize hk : (L.getD (p + 1) 0).toNat = k at *
  generalize hv : (L.getD (p + 2) 0).toNat * 256 + (L.getD (p + 3) 0).toNat = v at *
  have l1 : (cutN L (p + 4) k).length = k := cutN_len (by omega)
  have l2 : (cutN L (p + 4 + k) v).length = v := cutN_len (by omega)
  subst h6
  rw [rowB_cons]
  simp only
  rw [l1, l2]
  have b0 : UInt8.ofNat (kindB (decide ((L.getD p 0).toNat = 0))) = L.getD p 0 := by
    apply UInt8.toNat_inj.1
    rw [ofNat_small (by have := kindB_le (decide ((L.getD p 0).toNat = 0)); omega)]
    unfold kindB
    by_cases e : (L.getD p 0).toNat = 0
    · rw [e]; rfl
    · rw [decide_eq_false e, if_neg (by decide)]; omega
  have b1 : UInt8.ofNat k = L.getD (p + 1) 0 := by
    apply UInt8.toNat_inj.1
    have := (L.getD (p + 1) 0).toNat_lt
    rw [ofNat_small (by omega)]; omega
  have b2 : UInt8.ofNat (v / 256) = L.getD (p + 2) 0 := by
    apply UInt8.toNat_inj.1
    have := (L.getD (p + 2) 0).toNat_lt
    have := (L.getD (p + 3) 0).toNat_lt
    rw [ofNat_mod]; omega
  have b3 : UInt8.ofNat v = L.getD (p + 3) 0 := by
    apply UInt8.toNat_inj.1
    have := (L.getD (p + 2) 0).toNat_lt
    have := (L.getD (p + 3) 0).toNat_lt
    rw [ofNat_mod]; omega
  rw [b0, b1, b2, b3]
  have d : ∀ i, i < L.length → L.drop i = L.getD i 0 :: L.drop (i + 1) := fun i hi => by
    rw [List.drop_eq_getElem_cons hi]; simp [hi]
  have hq : L.take q = L.take p ++ (L.drop p).take (q - p) := by
    conv => lhs; rw [show q = p + (q - p) by omega]
    rw [List.take_add]
  rw [hq, d p (by omega), d (p + 1) (by omega), d (p + 1 + 1) (by omega), d (p + 1 + 1 + 1) (by omega)]
  rw [show q - p = (k + v) + 1 + 1 + 1 + 1 by omega]
  simp only [List.take_succ_cons]
  congr 5
  unfold cutN
  rw [List.take_add, List.drop_drop]
theorem okS_push {l : List SetD} {s : SetD} (h : okS l l.length = true) (hm : mayB s = true) (hk : okK l s.1 = true) : okS (l ++ [s]) (l ++ [s]).length = true := by
  have hall : ∀ k, k < l.length → okAtS l k = true := by unfold okS at h; exact of_decide_eq_true h
  unfold okS
  rw [decide_eq_true_eq]
  intro k hk2
  simp only [List.length_append, List.length_cons, List.length_nil] at hk2
  have g1 : ∀ j, j < l.length → (l ++ [s]).getD j zeroSet = l.getD j zeroSet := fun j hj => by simp [List.getElem?_append_left hj]
  have g2 : (l ++ [s]).getD l.length zeroSet = s := by simp
  unfold okAtS
  rcases Nat.lt_or_ge k l.length with h1 | h1
  · have := hall k h1
    unfold okAtS at this
    rw [g1 k h1, g1 (k - 1) (by omega)]
    exact this
  · obtain rfl : k = l.length := by omega
    rw [g2, hm, Bool.true_and]
    unfold okK at hk
    rcases Nat.eq_zero_or_pos l.length with h0 | h0
    · rw [decide_eq_true h0]; rfl
    · rw [g1 (l.length - 1) (by omega)]; exact hk
theorem setsGo_put {L : List UInt8} : ∀ (f p : Nat) (l r : List SetD), okS l l.length = true → l.flatMap rowB = L.take p → setsGo L f p l = (r, 0) → okS r r.length = true ∧ r.flatMap rowB = L
  | 0, p, l, r, _, _, h => by simp [setsGo] at h
  | f + 1, p, l, r, h1, h2, h => by
    by_cases hp : p < L.length
    · cases hs : rdS L p with
      | none => rw [setsGo_none hp hs] at h; injection h with _ h; cases h
      | some x =>
        obtain ⟨s, q⟩ := x
        rw [setsGo_some hp hs] at h
        split at h
        · rename_i hk
          refine setsGo_put f q (l ++ [s]) r (okS_push h1 (rdS_some hs).2.2.1 hk) ?_ h
          rw [List.flatMap_append, h2, rowB_step hs]; simp
        · injection h with _ h; cases h
    · rw [setsGo_end hp] at h
      injection h with h _
      subst h
      exact ⟨h1, by rw [h2]; exact List.take_of_length_le (by omega)⟩
/-- P13.5: what GetSets takes PutSets writes just so -/
theorem put_get {L : List UInt8} {r : List SetD} (h : getSetsD L = (r, 0)) : okS r r.length = true ∧ putSetsD r = (L, 0) := by
  obtain ⟨h1, h2⟩ := setsGo_put (L.length + 1) 0 [] r (by simp [okS]) (by simp) h
  refine ⟨h1, ?_⟩
  unfold putSetsD
  rw [if_pos h1, h2]
theorem setsGo_err {L : List UInt8} : ∀ (f p : Nat) (l : List SetD), (setsGo L f p l).2 = 0 ∨ setsGo L f p l = ([], 114)
  | 0, p, l => .inr rfl
  | f + 1, p, l => by
    by_cases hp : p < L.length
    · cases hs : rdS L p with
      | none => exact .inr (setsGo_none hp hs)
      | some x =>
        obtain ⟨s, q⟩ := x
        rw [setsGo_some hp hs]
        split
        · exact setsGo_err f q _
        · exact .inr rfl
    · rw [setsGo_end hp]; exact .inl rfl
theorem getSetsD_err (L : List UInt8) : (getSetsD L).2 = 0 ∨ getSetsD L = ([], 114) := setsGo_err _ _ _
end Go.Proofs.Ytnhfeoniiadjfaa.Lst
/- bits.Get at uint16 (printed by gen/rget.py). -/
namespace Go.Proofs.Ytnhfeoniiadjfaa.Help
open Go.RowKit Go.Proofs.Ytnhfeoniiadjfaa.K
set_option linter.unusedVariables false
set_option maxRecDepth 100000 in
theorem get_uint16 (g rb p : Nat) (L : List UInt8) (err : Int) (w : World) (h : Rdr w g rb L p err) :
    Calls Try.prog 70 #[.pointer (some ⟨g, 0, none⟩)] w (GetR w g rb L .u16 (takes L p 2 err)) := by
  have HR := Lib.hid h
  clear h
  have htl := takes_len L p 2 err
  have T := Lib.hid (fun x (hx : x = ((2 : Nat) : Int)) => take_int g rb p 2 x L err w HR.out hx (by omega))
  generalize takes L p 2 err = t at *
  obtain ⟨l, ok, q, er⟩ := t
  obtain ⟨hl1, hl2⟩ := htl
  simp only at hl1 hl2
  have HL2 := Lib.hid hl2
  clear hl2
  have hv := val_pow hl1
  go_enter Try.func70, Try.ntmps70
  go_wp2_with (go_at_call 74; refine (Bits.width_uint16 _).mono ?_; rintro e w' ⟨rfl, rfl⟩)
  refine (T.out _ (by rfl)).mono ?_
  rintro e w1 ⟨A, c, rfl, hb, hr, ho⟩
  have H := Lib.hid (And.intro hb (And.intro hr ho))
  clear hb hr ho
  cases ok
  · obtain rfl := HL2.out rfl
    go_wp2_with fail
    go_ret
    exact ⟨rfl, H.out.2.1, H.out.2.2.1⟩
  · clear HL2
    go_wp2_with fail
    go_loopg [5, 18] l.length (fun gk s i wr => ∃ k : Nat, k ≤ l.length ∧ gk = l.length - k ∧ i = .int .i64 (k : Int) ∧ wr = w1 ∧ s = .int .u64 (val (l.take k) : Int))
    case atStart => exact ⟨0, by omega, rfl, rfl, rfl, by simp [val]⟩
    case round =>
      obtain ⟨k, hk, rfl, rfl, rfl, rfl⟩ := hrel
      by_cases hlt : k < l.length
      · have hlt2 : (k : Int) < l.length := by omega
        obtain ⟨ad, e1, hadl, c1⟩ := H.out.1.at_ k hlt
        subst e1
        have hs := take_snoc8 hlt
        have hx := val_small (l := l.take k) (k := k) (by rw [List.length_take]; omega) (by omega)
        have hor := or_byte (val (l.take k)) (l.getD k 0) hx
        have HN : Hid (val (l.take (k + 1)) = val (l.take k) * 256 + (l.getD k 0).toNat) := by rw [Hid, hs, val_snoc]
        clear hs hadl
        have hb := (l.getD k 0).toNat_lt
        generalize l.getD k 0 = b at *
        generalize val (l.take k) = x at *
        go_wp2_with fail
        go_roundg (l.length - (k + 1))
        case measure => omega
        case rel =>
          refine ⟨k + 1, by omega, rfl, by go_num, rfl, ?_⟩
          rw [HN.out]; push_cast; rfl
      · obtain rfl : k = l.length := by omega
        have e2 : l.take l.length = l := List.take_of_length_le (Nat.le_refl _)
        rw [e2]
        have hw : IntKind.u16.wrap (val l : Int) = (val l : Int) := by
          rw [IntKind.wrap_u16]
          exact Int.emod_eq_of_lt (by omega) (by omega)
        have hv2 : val l < 65536 := hv
        clear e2 hlt hv
        generalize hx : val l = x at *
        have HX := Lib.hid hx
        clear hx
        go_wp2_with fail
        go_ret
        exact ⟨by rw [HX.out]; rfl, H.out.2.1, H.out.2.2.1⟩

end Go.Proofs.Ytnhfeoniiadjfaa.Help
/- The walk of GetSets: its state. -/
namespace Go.Proofs.Ytnhfeoniiadjfaa.Lst
open Go.RowKit Go.Proofs.Ytnhfeoniiadjfaa.K Go.Proofs.Ytnhfeoniiadjfaa.Help Go.Proofs.Ytnhfeoniiadjfaa.Pfx Go.Proofs.Ytnhfeoniiadjfaa.Peer
set_option linter.unusedVariables false

structure GSt (w wr : World) (g rb : Nat) (L : List UInt8) (p : Nat) (err : Int) (v : Value) (acc : List SetD) : Prop where
  o : OwnL SetE 37 wr (fun i => i = g ∨ i < w.heap.size) w.heap.size v acc
  d : Rdr wr g rb L p err
  b : Below w.heap.size w wr
  hg : w.heap.size ≤ g
section
variable {w wr w' : World} {g rb p q : Nat} {L : List UInt8} {err er : Int} {v : Value} {acc : List SetD}
theorem GSt.ne (h : GSt w wr g rb L p err v acc) : ∀ i, v.ownBlock = some i → ¬ i = g := fun i hi e => by
  obtain ⟨cs, hc⟩ := h.o.blk hi
  subst e
  exact blk_ne hc h.d.b (by decide) rfl
theorem GSt.neR (h : GSt w wr g rb L p err v acc) : ¬ v.ownBlock = some rb := fun hi => by
  obtain ⟨cs, hc⟩ := h.o.blk hi
  exact blk_ne hc h.d.r (by decide) rfl
theorem GSt.next (h : GSt w wr g rb L p err v acc) (hd : Rdr w' g rb L q er) (k : Only wr w' (fun i => i = g)) : GSt w w' g rb L q er v acc :=
  ⟨h.o.only k h.ne (fun i _ h => .inl h), hd, below_only h.b k (fun i hi => by rw [hi]; exact h.hg), h.hg⟩
theorem GSt.keep (h : GSt w wr g rb L p err v acc) (hb : Below wr.heap.size wr w') : GSt w w' g rb L p err v acc := ⟨h.o.below hb, h.d.below hb, below_step h.b hb, h.hg⟩
instance stb_gst : Stb wr w' (GSt w wr g rb L p err v acc) (GSt w w' g rb L p err v acc) := ⟨fun h hb => h.keep hb⟩
theorem GSt.push (h : GSt w wr g rb L p err v acc) {v1 : Value} {s : SetD} (o : OwnL SetE 37 w' (fun i => i = g ∨ i < w.heap.size) w.heap.size v1 (acc ++ [s])) (k : Only wr w' (fun k => v.ownBlock = some k)) : GSt w w' g rb L p err v1 (acc ++ [s]) :=
  ⟨o, h.d.only k (fun hk => h.ne g hk rfl) h.neR, below_only h.b k (fun i hi => h.o.base_le hi), h.hg⟩
/-- bytes of the reader's copy -/
theorem GSt.bs (h : GSt w wr g rb L p err v acc) (hrb : w.heap.size ≤ rb) {A : Option Addr} {c : Nat} {l : List UInt8} (hb : Bs wr A c l) (hat : At A rb) : BsN wr (fun k => (k = g ∨ k < w.heap.size) ∨ v.ownBlock = some k) A c l :=
  ⟨hb, fun _ ad e hx => by
    have e1 := hat ad e
    rcases hx with (hx | hx) | hx
    · exact h.d.ne (by rw [← hx, e1])
    · omega
    · rw [e1] at hx; exact h.neR hx⟩
end
def RetGS (w : World) (r : List SetD × Int) (e : Ending) (w' : World) : Prop := ∃ A c, e = .returned (.tuple #[.slice A r.1.length c, .int .i64 r.2]) ∧ OwnL SetE 37 w' (fun i => i < w.heap.size) w.heap.size (.slice A r.1.length c) r.1 ∧ Below w.heap.size w w'
theorem retGS_no {w w' : World} {r : List SetD × Int} (hr : r = ([], 114)) (hb : Below w.heap.size w w') : RetGS w r (.returned (.tuple #[.slice none 0 0, .int .i64 114])) w' := by
  subst hr; exact ⟨none, 0, rfl, OwnL.nil _ _ _ _ _, hb⟩
end Go.Proofs.Ytnhfeoniiadjfaa.Lst
/- The walk of GetSets. -/
namespace Go.Proofs.Ytnhfeoniiadjfaa.Lst
open Go.RowKit Go.Proofs.Ytnhfeoniiadjfaa.K Go.Proofs.Ytnhfeoniiadjfaa.Help Go.Proofs.Ytnhfeoniiadjfaa.Pfx Go.Proofs.Ytnhfeoniiadjfaa.Peer
set_option linter.unusedVariables false

set_option maxRecDepth 100000 in
set_option maxHeartbeats 4000000 in
theorem getSets_any (A : Option Addr) (a : Nat) (L : List UInt8) (w : World) (ha : Bs w A a L) (hm : L.length ≤ 100000000) :
    Calls Try.prog 40 #[.slice A L.length a] w (RetGS w (getSetsD L)) := by
  have NR := Lib.hid (newReader A a L w ha)
  have HM := Lib.hid hm
  clear ha hm
  generalize hr : getSetsD L = res
  have HR : Hid (res = setsGo L (L.length + 1) 0 []) := Lib.hid hr.symm
  clear hr
  go_enter Try.func40, Try.ntmps40
  go_wp2_with fail
  (with_reducible refine NR.out.mono ?_)
  rintro e w1 ⟨g, rb, rfl, hrd, hb1, hg, hrb⟩
  have S0 : Hid (GSt w w1 g rb L 0 0 (.slice none 0 0) []) := Lib.hid ⟨OwnL.nil _ _ _ _ _, hrd, hb1, hg⟩
  have HRB := Lib.hid hrb
  clear NR hrd hb1 hg hrb
  go_wp2_with fail
  go_loopg [4] L.length (fun gk v wr => ∃ (p f : Nat) (acc : List SetD), p ≤ L.length ∧ gk = L.length - p ∧ Hid (L.length - p < f ∧ res = setsGo L f p acc ∧ acc.length ≤ p) ∧ Hid (GSt w wr g rb L p 0 v acc))
  case atStart => exact ⟨0, L.length + 1, [], by omega, rfl, ⟨by omega, HR.out, by simp⟩, S0⟩
  case round =>
    clear HR S0
    obtain ⟨p, f, acc, hp, rfl, HF, HS⟩ := hrel
    obtain ⟨A0, d0, rfl⟩ := HS.out.o.slice
    have LF := Lib.hid (left g rb p L 0 wr HS.out.d)
    have HLF : Hid (Help.Left L p 0 = L.length - p) := by unfold Help.Left Hid; simp
    by_cases hlt : p < L.length
    · have hl1 : 0 < Help.Left L p 0 := by rw [HLF.out]; omega
      have hl0 : (0 : Int) < (Help.Left L p 0 : Int) := by omega
      generalize Help.Left L p 0 = lf at *
      go_wp2_with fail
      (with_reducible refine LF.out.mono ?_)
      rintro e w2 ⟨q, rfl, rfl⟩
      have H1 := hkeep (below_drewN (Below.refl wr.heap.size wr) q) HS
      generalize wr.drewN q = w2 at *
      clear HS LF HLF
      have GA : Hid (∀ W, Rdr W g rb L p 0 → Calls Try.prog 69 #[.pointer (some ⟨g, 0, none⟩)] W (GetR W g rb L .u8 (tkA L p))) := Lib.hid (fun W h => get_uint8 g rb p L 0 W h)
      have GB : Hid (∀ W, Rdr W g rb L (tkA L p).2.2.1 (tkA L p).2.2.2 → Calls Try.prog 69 #[.pointer (some ⟨g, 0, none⟩)] W (GetR W g rb L .u8 (tkB L p))) := Lib.hid (fun W h => get_uint8 g rb _ L _ W h)
      have GC : Hid (∀ W, Rdr W g rb L (tkB L p).2.2.1 (tkB L p).2.2.2 → Calls Try.prog 70 #[.pointer (some ⟨g, 0, none⟩)] W (GetR W g rb L .u16 (tkC L p))) := Lib.hid (fun W h => get_uint16 g rb _ L _ W h)
      have NB : Hid (val (tkB L p).1 < 256) := Lib.hid (val_pow (k := 1) (takes_len L _ 1 _).1)
      have MB : Hid (val (tkC L p).1 < 65536) := Lib.hid (val_pow (k := 2) (takes_len L _ 2 _).1)
      have GD : Hid (∀ W x, Rdr W g rb L (tkC L p).2.2.1 (tkC L p).2.2.2 → x = ((val (tkB L p).1 : Nat) : Int) → Calls Try.prog 71 #[.pointer (some ⟨g, 0, none⟩), .int .i64 x] W (BytesR W g rb L (tkD L p))) := Lib.hid (fun W x h e => rbytes g rb _ _ x L _ W h e (by have := NB.out; omega))
      have GE : Hid (∀ W x, Rdr W g rb L (tkD L p).2.2.1 (tkD L p).2.2.2 → x = ((val (tkC L p).1 : Nat) : Int) → Calls Try.prog 71 #[.pointer (some ⟨g, 0, none⟩), .int .i64 x] W (BytesR W g rb L (tkE L p))) := Lib.hid (fun W x h e => rbytes g rb _ _ x L _ W h e (by have := MB.out; omega))
      have HST := Lib.hid (rdG_eq L p hlt)
      have HGS := Lib.hid (fun s q => rdS_some (L := L) (p := p) (s := s) (q := q))
      unfold rdG at HST
      generalize tkA L p = tA at *
      generalize tkB L p = tB at *
      generalize tkC L p = tC at *
      generalize tkD L p = tD at *
      generalize tkE L p = tE at *
      obtain ⟨lA, kA, qA, eA⟩ := tA
      obtain ⟨lB, kB, qB, eB⟩ := tB
      obtain ⟨lC, kC, qC, eC⟩ := tC
      obtain ⟨lD, kD, qD, eD⟩ := tD
      obtain ⟨lE, kE, qE, eE⟩ := tE
      dsimp only at GA GB GC GD GE HST NB MB
      go_wp2_with fail
      (with_reducible refine (GA.out _ H1.out.d).mono ?_)
      rintro e w3 ⟨rfl, hd, k⟩
      have H2 := Lib.hid (H1.out.next hd k)
      clear hd k H1 GA
      go_wp2_with fail
      (with_reducible refine (GB.out _ H2.out.d).mono ?_)
      rintro e w4 ⟨rfl, hd, k⟩
      have H3 := Lib.hid (H2.out.next hd k)
      have hwb : IntKind.i64.wrap (val lB : Int) = (val lB : Int) := IntWalk.i64_in _ (by have := NB.out; omega)
      clear hd k H2 GB
      dsimp only
      go_wp2_with fail
      (with_reducible refine (GC.out _ H3.out.d).mono ?_)
      rintro e w5 ⟨rfl, hd, k⟩
      have H4 := Lib.hid (H3.out.next hd k)
      have hwc : IntKind.i64.wrap (val lC : Int) = (val lC : Int) := IntWalk.i64_in _ (by have := MB.out; omega)
      clear hd k H3 GC
      dsimp only
      go_wp2_with fail
      (with_reducible refine (GD.out _ _ H4.out.d ?_).mono ?_)
      · rfl
      rintro e w6 ⟨A4, c4, rfl, b4, hd, k, at4⟩
      have H5 := Lib.hid (H4.out.next hd k)
      have K4 := Lib.hid (H5.out.bs HRB.out b4 at4)
      clear b4 hd k at4 H4 GD
      dsimp only at K4 ⊢
      go_wp2_with fail
      (with_reducible refine (GE.out _ _ H5.out.d ?_).mono ?_)
      · rfl
      rintro e w7 ⟨A5, c5, rfl, b5, hd, k, at5⟩
      have K4' := Lib.hid (BsN.only K4.out k (fun i _ hi => .inl (.inl hi)))
      have H6 := Lib.hid (H5.out.next hd k)
      have K5 := Lib.hid (H6.out.bs HRB.out b5 at5)
      clear b5 hd k at5 H5 GE K4 hwb hwc NB MB
      dsimp only at K4' K5 H6 ⊢
      obtain ⟨kz, hkz⟩ : ∃ z, z = decide (val lA = 0) := ⟨_, rfl⟩
      have ekz : ((val lA : Int) == 0) = kz := by rw [beq_nat0, hkz]; rw [Bool.eq_iff_iff]; simp
      have ekz2 : decide ((val lA : Int) = 0) = kz := by rw [hkz]; simp
      rw [← hkz] at HST
      have HKZ := Lib.hid hkz
      clear hkz
      generalize val lA = kd at *
      go_wp2_with fail
      have hbU := below_alloc (Below.refl w7.heap.size w7) (.cells #[.slice A4 lD.length c4, .slice A5 lE.length c5, .bool kz] 37)
      have hxU := blk_new w7 (.cells #[.slice A4 lD.length c4, .slice A5 lE.length c5, .bool kz] 37)
      have H7 := hand (hkeep hbU (hand (hand (hstart K5.out) K4'.out) H6.out)) hxU
      have ER := Lib.hid (err_any g rb qE L eE _ H7.out.2.1.d)
      have HN : Hid (rdS L p = none → res = ([], 114)) := Lib.hid (fun h => by
        obtain ⟨f', rfl⟩ : ∃ m, f = m + 1 := ⟨f - 1, by have := HF.out.1; omega⟩
        rw [HF.out.2.1, setsGo_none hlt h])
      have HY : Hid (rdS L p = some ((lD, lE, kz), qE) → okK acc lD = false → res = ([], 114)) := Lib.hid (fun h h2 => by
        obtain ⟨f', rfl⟩ : ∃ m, f = m + 1 := ⟨f - 1, by have := HF.out.1; omega⟩
        rw [HF.out.2.1, setsGo_some hlt h, if_neg (by rw [h2]; decide)])
      have HZ : Hid (rdS L p = some ((lD, lE, kz), qE) → okK acc lD = true → qE ≤ L.length ∧ p + 4 ≤ qE ∧ ∃ f', L.length - qE < f' ∧ res = setsGo L f' qE (acc ++ [(lD, lE, kz)])) := Lib.hid (fun h h2 => by
        obtain ⟨f', rfl⟩ : ∃ m, f = m + 1 := ⟨f - 1, by have := HF.out.1; omega⟩
        obtain ⟨g1, g2, -⟩ := rdS_some h
        exact ⟨g2, g1, f', by have := HF.out.1; omega, by rw [HF.out.2.1, setsGo_some hlt h, if_pos h2]⟩)
      have HAL : Hid (acc.length ≤ 100000000) := Lib.hid (by have := HF.out.2.2; have := HM.out; omega)
      have HAP : Hid (acc.length ≤ p) := Lib.hid HF.out.2.2
      have HOA : Hid (acc = [] ∨ okK acc lD = decide ((acc.getD (acc.length - 1) zeroSet).1 < lD)) := Lib.hid (by
        rcases Nat.eq_zero_or_pos acc.length with h | h
        · exact .inl (List.eq_nil_of_length_eq_zero h)
        · exact .inr (by unfold okK; rw [decide_eq_false (by omega)]; rfl))
      clear hbU hxU K5 K4' H6 HF HGS
      generalize w7.alloc (.cells #[.slice A4 lD.length c4, .slice A5 lE.length c5, .bool kz] 37) = U7 at *
      generalize w7.heap.size = sb at *
      (with_reducible refine ER.out.mono ?_)
      rintro e w8 ⟨q8, rfl, rfl⟩
      have H8 := hkeep (below_drewN (Below.refl U7.heap.size U7) q8) H7
      generalize U7.drewN q8 = U8 at *
      have x0 := (blk_cell H8.out.1 0).trans (b := some (Value.slice A4 lD.length c4)) rfl
      have x1 := (blk_cell H8.out.1 1).trans (b := some (Value.slice A5 lE.length c5)) rfl
      have x2 := (blk_cell H8.out.1 2).trans (b := some (Value.bool kz)) rfl
      clear H7 ER
      by_cases hE : eE = 0
      rotate_left
      · have hE2 : (eE != 0) = true := by simp [hE]
        have HF := Lib.hid (HN.out (by rw [← HST.out, if_pos (.inl hE)]))
        clear hE HST
        go_wp2_with fail
        exact bodyPost_ret (v := .tuple #[.slice none 0 0, .int .i64 114]) (by simp [results, Try.results40, go_sem]) rfl (retGS_no HF.out H8.out.2.1.b)
      · subst hE
        by_cases hk1 : 1 < kd
        · have hk2 : (1 : Int) < (kd : Int) := by omega
          have HF := Lib.hid (HN.out (by rw [← HST.out, if_pos (.inr (.inl hk1))]))
          clear HST
          go_wp2_with fail
          exact bodyPost_ret (v := .tuple #[.slice none 0 0, .int .i64 114]) (by simp [results, Try.results40, go_sem]) rfl (retGS_no HF.out H8.out.2.1.b)
        · have hk2 : ¬ (1 : Int) < (kd : Int) := by omega
          have HK1 := Lib.hid hk1
          have MY := Lib.hid (may_any A4 A5 lD.length c4 lE.length c5 kz U8)
          have HM2 : Hid (mayN lD.length lE.length kz = false → rdS L p = none) := Lib.hid (fun h => by rw [← HST.out, if_pos (.inr (.inr h))])
          have HM3 : Hid (mayN lD.length lE.length kz = true → rdS L p = some ((lD, lE, kz), qE)) := Lib.hid (fun h => by
            rw [← HST.out, if_neg]
            rintro (h2 | h2 | h2)
            · exact h2 rfl
            · exact HK1.out h2
            · rw [h] at h2; cases h2)
          generalize mayN lD.length lE.length kz = mb at *
          clear HST
          go_wp2_with fail
          (with_reducible refine MY.out.mono ?_)
          rintro e U9 ⟨rfl, hb9⟩
          have H9 := hkeep hb9 H8
          clear hb9 MY H8 x0 x1 x2
          cases mb
          · have HF := Lib.hid (HN.out (HM2.out rfl))
            go_wp2_with fail
            exact bodyPost_ret (v := .tuple #[.slice none 0 0, .int .i64 114]) (by simp [results, Try.results40, go_sem]) rfl (retGS_no HF.out H9.out.2.1.b)
          · have HRD := Lib.hid (HM3.out rfl)
            have x0 := Since.cell ((blk_cell H9.out.1 0).trans (b := some (Value.slice A4 lD.length c4)) rfl) (blk_lt H9.out.1)
            have HG0 := Lib.hid (Since.drew (Below.refl U9.heap.size U9))
            have cvk : ∀ p : Cls (Since U9), (convert 27 9 (.slice A4 lD.length c4)).run Try.prog p.W = .ok (.string ⟨lD.toArray⟩) p.W := fun p => str_of A4 c4 lD p.W (H9.out.2.2.1.1.below p.ok)
            have key : (decide ((0 : Int) < (acc.length : Int)) = false ∧ decide (0 < acc.length) = false ∧ Hid (okK acc lD = true)) ∨
                ((0 : Int) < (acc.length : Int) ∧ 0 < acc.length ∧ ∃ bk off A2 a2 pk, A0 = some ⟨bk, off, none⟩ ∧ (∀ p : Cls (Since U9), p.W.cell? ⟨bk, off + (acc.length - 1) * 3, none⟩ = some (.slice A2 pk.length a2)) ∧ (∀ p : Cls (Since U9), (convert 27 9 (.slice A2 pk.length a2)).run Try.prog p.W = .ok (.string ⟨pk.toArray⟩) p.W) ∧
                  Op.bytesLess pk lD = okK acc lD) := by
              rcases Nat.eq_zero_or_pos acc.length with h | h
              · refine .inl ⟨by rw [decide_eq_false_iff_not]; omega, by rw [decide_eq_false_iff_not]; omega, ?_⟩
                rw [Hid, List.eq_nil_of_length_eq_zero h]; rfl
              · refine .inr ⟨by omega, h, ?_⟩
                obtain ⟨A', c', ev, hl⟩ := H9.out.2.1.o.lst (N := fun i => i = g ∨ i < w.heap.size) (fun i hi h => h.elim (H9.out.2.1.ne i hi) (fun h => by have := H9.out.2.1.o.base_le hi; omega))
                cases ev
                have hl2 := hl
                obtain ⟨bk, off, A2, a2, B2, b2, eA, hbk, p0, -, -, q1, -⟩ := hl2.set (acc.length - 1) _ (getD_get zeroSet (by omega))
                refine ⟨bk, off, A2, a2, _, eA, Since.cell p0 hbk, fun p => str_of A2 a2 _ p.W (q1.1.below p.ok), ?_⟩
                rw [bytesLess_eq]
                rcases HOA.out with h2 | h2
                · rw [h2] at h; simp at h
                · exact h2.symm
            generalize hml : acc.length = m at *
            have HML := Lib.hid hml
            clear hml
            generalize hok : okK acc lD = ok at *
            clear hok
            go_wp2_with fail
            have key2 : (decide ((0 : Int) < (m : Int)) = false ∧ decide (0 < m) = false ∧ Hid (ok = true)) ∨
                (((0 : Int) < (m : Int) ∧ 0 < m ∧ ∃ bk off A2 a2 pk, A0 = some ⟨bk, off, none⟩ ∧ (∀ p : Cls (Since U9), p.W.cell? ⟨bk, off + (m - 1) * 3, none⟩ = some (.slice A2 pk.length a2)) ∧ (∀ p : Cls (Since U9), (convert 27 9 (.slice A2 pk.length a2)).run Try.prog p.W = .ok (.string ⟨pk.toArray⟩) p.W) ∧
                  Op.bytesLess pk lD = true ∧ Hid (ok = true)) ∨
                ((0 : Int) < (m : Int) ∧ 0 < m ∧ ∃ bk off A2 a2 pk, A0 = some ⟨bk, off, none⟩ ∧ (∀ p : Cls (Since U9), p.W.cell? ⟨bk, off + (m - 1) * 3, none⟩ = some (.slice A2 pk.length a2)) ∧ (∀ p : Cls (Since U9), (convert 27 9 (.slice A2 pk.length a2)).run Try.prog p.W = .ok (.string ⟨pk.toArray⟩) p.W) ∧
                  Op.bytesLess pk lD = false ∧ Hid (ok = false))) := by
              rcases key with h | ⟨g1, g2, bk, off, A2, a2, pk, g3, g4, g5, g6⟩
              · exact .inl h
              · cases ok
                · exact .inr (.inr ⟨g1, g2, bk, off, A2, a2, pk, g3, g4, g5, g6, rfl⟩)
                · exact .inr (.inl ⟨g1, g2, bk, off, A2, a2, pk, g3, g4, g5, g6, rfl⟩)
            clear key
            have hsub : 0 < m → IntKind.i64.wrap ((m : Int) - 1) = (m : Int) - 1 := fun _ => IntWalk.i64_in _ (by have := HAL.out; have := HML.out; omega)
            have HSUB := Lib.hid hsub
            clear hsub
            rcases key2 with ⟨hz1, hz2, HOK⟩ | ⟨hz1, hz2, bk, off, A2, a2, pk, rfl, z0, cvp, hless, HOK⟩ | ⟨hz1, hz2, bk, off, A2, a2, pk, rfl, z0, cvp, hless, HOK⟩
            rotate_right
            · have hsub := HSUB.out hz2
              have hs0 : (0 : Int) ≤ (m : Int) - 1 := by omega
              have hs1 : (m : Int) - 1 < (m : Int) := by omega
              have hs2 : ((m : Int) - 1).toNat = m - 1 := by omega
              have hless2 : Op.bytesLess (⟨pk.toArray⟩ : ByteArray).toList (⟨lD.toArray⟩ : ByteArray).toList = false := by rw [list_str, list_str]; exact hless
              have HF := Lib.hid (HY.out HRD.out HOK.out)
              clear HSUB
              refine wp_region_quiet_cls (Since U9) (by kernel_rfl) (by kernel_rfl) HG0.out ?_
              repeat (go_big_quiet_step (fail))
              clear cvp cvk z0 hsub hs0 hs1 hs2 hless hless2 x0
              refine wpQuiet_nil ?_
              intro _ hw'
              obtain ⟨nq, hw''⟩ := hw'
              subst hw''
              have BU := Lib.hid (show Below U9.heap.size U9 nq.W from nq.ok)
              generalize nq.W = U10 at *
              have H10 := hkeep BU.out H9
              go_wp2_with fail
              exact bodyPost_ret (v := .tuple #[.slice none 0 0, .int .i64 114]) (by simp [results, Try.results40, go_sem]) rfl (retGS_no HF.out H10.out.2.1.b)
            rotate_left
            · have hsub := HSUB.out hz2
              have hs0 : (0 : Int) ≤ (m : Int) - 1 := by omega
              have hs1 : (m : Int) - 1 < (m : Int) := by omega
              have hs2 : ((m : Int) - 1).toNat = m - 1 := by omega
              have hless2 : Op.bytesLess (⟨pk.toArray⟩ : ByteArray).toList (⟨lD.toArray⟩ : ByteArray).toList = true := by rw [list_str, list_str]; exact hless
              clear HSUB
              refine wp_region_quiet_cls (Since U9) (by kernel_rfl) (by kernel_rfl) HG0.out ?_
              repeat (go_big_quiet_step (fail))
              clear cvp cvk z0 hsub hs0 hs1 hs2 hless hless2 x0
              refine wpQuiet_nil ?_
              intro _ hw'
              obtain ⟨nq, hw''⟩ := hw'
              subst hw''
              have BU := Lib.hid (show Below U9.heap.size U9 nq.W from nq.ok)
              generalize nq.W = U10 at *
              have H10 := hkeep BU.out H9
              have x0 := (blk_cell H10.out.1 0).trans (b := some (Value.slice A4 lD.length c4)) rfl
              have x1 := (blk_cell H10.out.1 1).trans (b := some (Value.slice A5 lE.length c5)) rfl
              have x2 := (blk_cell H10.out.1 2).trans (b := some (Value.bool kz)) rfl
              have hb11 := below_alloc (Below.refl U10.heap.size U10) (.cells #[.slice A4 lD.length c4, .slice A5 lE.length c5, .bool kz] 37)
              have H11 := hand (hkeep hb11 H10) (blk_new U10 (.cells #[.slice A4 lD.length c4, .slice A5 lE.length c5, .bool kz] 37))
              have HOO := H11.out.2.2.1.o
              rw [← HML.out] at HOO
              have HO2 := Lib.hid HOO
              clear HOO hb11 H9 BU
              obtain ⟨z1, z2, f', z3, z4⟩ := HZ.out HRD.out HOK.out
              have HZ2 := Lib.hid (And.intro z1 (And.intro z2 (And.intro z3 z4)))
              clear z1 z2 z3 z4
              go_wp2_with (at_builtin; refine push (E := SetE) 37 22 _ 56 rfl (.tmp 67) (.tmp 69) rfl Try.underlying22 info_set rfl (by decide) (by decide) (by decide) (.slice (some ⟨bk, off, none⟩) m d0) acc (lD, lE, kz) [Value.slice A4 lD.length c4, .slice A5 lE.length c5, .bool kz] U10.heap.size 1 rfl rfl (by rw [← HML.out]; exact HO2.out) H11.out.1 ⟨A4, c4, A5, c5, rfl, H11.out.2.2.2.1, H11.out.2.2.2.2.1⟩ H11.out.2.2.1.b.size (by have := HML.out; have := HAL.out; omega) ?_ (fun i hi => hi.elim (fun h => by rw [h]; exact blk_lt H11.out.2.2.1.d.b) (fun h => Nat.lt_of_lt_of_le h H11.out.2.2.1.b.size)); intro A12 c12 U12 o12 k12 n12; have G12 := Lib.hid (H11.out.2.2.1.push o12 k12); clear o12 k12 n12)
              go_roundg (L.length - qE)
              case measure => have := HZ2.out.1; have := HZ2.out.2.1; omega
              case rel => exact ⟨qE, f', acc ++ [(lD, lE, kz)], HZ2.out.1, rfl, ⟨HZ2.out.2.2.1, HZ2.out.2.2.2, by have := HAP.out; have := HML.out; have := HZ2.out.2.1; simp; omega⟩, G12⟩
            · clear HSUB
              refine wp_region_quiet_cls (Since U9) (by kernel_rfl) (by kernel_rfl) HG0.out ?_
              repeat (go_big_quiet_step (fail))
              clear cvk x0
              refine wpQuiet_nil ?_
              intro _ hw'
              obtain ⟨nq, hw''⟩ := hw'
              subst hw''
              have BU := Lib.hid (show Below U9.heap.size U9 nq.W from nq.ok)
              generalize nq.W = U10 at *
              have H10 := hkeep BU.out H9
              have x0 := (blk_cell H10.out.1 0).trans (b := some (Value.slice A4 lD.length c4)) rfl
              have x1 := (blk_cell H10.out.1 1).trans (b := some (Value.slice A5 lE.length c5)) rfl
              have x2 := (blk_cell H10.out.1 2).trans (b := some (Value.bool kz)) rfl
              have hb11 := below_alloc (Below.refl U10.heap.size U10) (.cells #[.slice A4 lD.length c4, .slice A5 lE.length c5, .bool kz] 37)
              have H11 := hand (hkeep hb11 H10) (blk_new U10 (.cells #[.slice A4 lD.length c4, .slice A5 lE.length c5, .bool kz] 37))
              have HOO := H11.out.2.2.1.o
              rw [← HML.out] at HOO
              have HO2 := Lib.hid HOO
              clear HOO hb11 H9 BU
              obtain ⟨z1, z2, f', z3, z4⟩ := HZ.out HRD.out HOK.out
              have HZ2 := Lib.hid (And.intro z1 (And.intro z2 (And.intro z3 z4)))
              clear z1 z2 z3 z4
              go_wp2_with (at_builtin; refine push (E := SetE) 37 22 _ 56 rfl (.tmp 67) (.tmp 69) rfl Try.underlying22 info_set rfl (by decide) (by decide) (by decide) (.slice A0 m d0) acc (lD, lE, kz) [Value.slice A4 lD.length c4, .slice A5 lE.length c5, .bool kz] U10.heap.size 1 rfl rfl (by rw [← HML.out]; exact HO2.out) H11.out.1 ⟨A4, c4, A5, c5, rfl, H11.out.2.2.2.1, H11.out.2.2.2.2.1⟩ H11.out.2.2.1.b.size (by have := HML.out; have := HAL.out; omega) ?_ (fun i hi => hi.elim (fun h => by rw [h]; exact blk_lt H11.out.2.2.1.d.b) (fun h => Nat.lt_of_lt_of_le h H11.out.2.2.1.b.size)); intro A12 c12 U12 o12 k12 n12; have G12 := Lib.hid (H11.out.2.2.1.push o12 k12); clear o12 k12 n12)
              go_roundg (L.length - qE)
              case measure => have := HZ2.out.1; have := HZ2.out.2.1; omega
              case rel => exact ⟨qE, f', acc ++ [(lD, lE, kz)], HZ2.out.1, rfl, ⟨HZ2.out.2.2.1, HZ2.out.2.2.2, by have := HAP.out; have := HML.out; have := HZ2.out.2.1; simp; omega⟩, G12⟩
    · have hl1 : ¬ 0 < Help.Left L p 0 := by rw [HLF.out]; omega
      have hl0 : ¬ (0 : Int) < (Help.Left L p 0 : Int) := by omega
      have HF2 : Hid (res = (acc, 0)) := Lib.hid (by
        obtain ⟨f', rfl⟩ : ∃ m, f = m + 1 := ⟨f - 1, by have := HF.out.1; omega⟩
        rw [HF.out.2.1, setsGo_end hlt])
      generalize Help.Left L p 0 = lf at *
      go_wp2_with fail
      (with_reducible refine LF.out.mono ?_)
      rintro e w2 ⟨q, rfl, rfl⟩
      have H1 := hkeep (below_drewN (Below.refl wr.heap.size wr) q) HS
      generalize wr.drewN q = w2 at *
      go_wp2_with fail
      exact bodyPost_ret (v := .tuple #[.slice A0 acc.length d0, .int .i64 0]) (by simp [results, Try.results40, go_sem]) rfl ⟨A0, d0, by rw [HF2.out], by rw [HF2.out]; exact H1.out.o.reno (fun _ h => .inl (.inr h)), H1.out.b⟩
end Go.Proofs.Ytnhfeoniiadjfaa.Lst
/- Tables whose memory lies from H on: what is written below H leaves them as they are. -/
namespace Go.Proofs.Ytnhfeoniiadjfaa.Lst
open Go.RowKit Go.Maps Go.Sort Go.Proofs.Ytnhfeoniiadjfaa.K Go.Proofs.Ytnhfeoniiadjfaa.Help Go.Proofs.Ytnhfeoniiadjfaa.Pfx
set_option linter.unusedVariables false

def FrD (H : Nat) (D : DataW Value) (l : List RowD) : Prop := ∀ r, r ∈ l → ∀ z B m c, D.atKey (.string r.1) z = .held (hvV B m c) → ∀ ad, B = some ad → H ≤ ad.block
def TMapN (w : World) (H b n : Nat) (l : List RowD) : Prop := H ≤ b ∧ ∃ D, w.ownsMap Try.prog 9 RH b n D ∧ HoldsL w D l ∧ FrD H D l
structure TTabN (w : World) (H p b n : Nat) (l : List RowD) : Prop where
  hp : H ≤ p
  blk : w.heap[p]? = some (.cells #[.map (some b)] 59 (0, 0))
  map : TMapN w H b n l
section
variable {w w' : World} {H p b n : Nat} {l : List RowD}
theorem TMapN.old (h : TMapN w H b n l) : TMap w b n l := by obtain ⟨_, D, h1, h2, _⟩ := h; exact ⟨D, h1, h2⟩
theorem TTabN.old (h : TTabN w H p b n l) : TTab w p b n l := ⟨h.blk, h.map.old⟩
theorem TTab.fresh (h : TTab w p b n []) (hp : H ≤ p) (hb : H ≤ b) : TTabN w H p b n [] := ⟨hp, h.blk, hb, by
  obtain ⟨D, h1, h2⟩ := h.map
  exact ⟨D, h1, h2, fun r hr => by cases hr⟩⟩
theorem TMapN.keep (h : TMapN w H b n l) (hb : Below w.heap.size w w') : TMapN w' H b n l := by
  have hlt := h.old.lt
  obtain ⟨h0, D, h1, h2, h3⟩ := h
  exact ⟨h0, D, owns_blk h1 (hb.block _ hlt), h2.bs (fun s => s.below hb), h3⟩
theorem TTabN.keep (h : TTabN w H p b n l) (hb : Below w.heap.size w w') : TTabN w' H p b n l := ⟨h.hp, (hb.block _ (blk_lt h.blk)).trans h.blk, h.map.keep hb⟩
instance stb_ttabN : Stb w w' (TTabN w H p b n l) (TTabN w' H p b n l) := ⟨fun h hb => h.keep hb⟩
theorem HoldsL.low {D : DataW Value} {T : Nat → Prop} (h : HoldsL w D l) (hf : FrD H D l) (k : Only w w' T) (hT : ∀ i, T i → i < H) : HoldsL w' D l := ⟨h.srt, h.has_, fun r hr => by
  obtain ⟨B, c, e, s⟩ := h.at_ r hr
  exact ⟨B, c, e, (BsN.only (N := fun i => i < H) ⟨s, fun _ ad ea hx => by have := hf r hr _ B _ c (e (.held (hvV none 0 0))) ad ea; omega⟩ k (fun i _ h => hT i h)).1⟩, h.len⟩
theorem TMapN.low {T : Nat → Prop} (h : TMapN w H b n l) (k : Only w w' T) (hT : ∀ i, T i → i < H) : TMapN w' H b n l := by
  have hlt := h.old.lt
  obtain ⟨h0, D, h1, h2, h3⟩ := h
  exact ⟨h0, D, owns_blk h1 (k.block _ hlt (fun h => by have := hT _ h; omega)), h2.low h3 k hT, h3⟩
theorem TTabN.low {T : Nat → Prop} (h : TTabN w H p b n l) (k : Only w w' T) (hT : ∀ i, T i → i < H) : TTabN w' H p b n l := ⟨h.hp, k.blk h.blk (fun e => by have := hT _ e; have := h.hp; omega), h.map.low k hT⟩
theorem TTabN.turn {m : Nat} {q : List RowD} (h : TTabN w H p b n l) (k : Only w w' (fun i => i = b)) (hm : TMapN w' H b m q) : TTabN w' H p b m q := ⟨h.hp, k.blk h.blk h.old.ne, hm⟩
theorem TTabN.noU8 (h : TTabN w H p b n l) : NoU8 w p := h.old.noU8
end
theorem FrD.put {H : Nat} {D : DataW Value} {l : List RowD} (h : FrD H D l) (hD : IsMap D) (k v : List UInt8) {B : Option Addr} {c : Nat} (hB : ∀ ad, B = some ad → H ≤ ad.block) : FrD H (D.put (.string k) (.held (hvV B v.length c))) (setR l k v) := by
  intro r hr z B' m' c' e ad ea
  rcases mem_setR.1 hr with rfl | ⟨h1, h2⟩
  · rw [atKey_put_same hD (k := .string k) (by simp [WideAt.IsKeyLit])] at e
    injection e with e
    injection e with e
    have e2 : Value.slice B v.length c = Value.slice B' m' c' := by simpa using e
    injection e2 with e2
    exact hB ad (by rw [e2, ea])
  · rw [atKey_put_other (by intro h; injection h with h; exact h2 h)] at e
    exact h r h1 z B' m' c' e ad ea
theorem tstoreN_run {w : World} {H b n : Nat} {l : List RowD} (h : TMapN w H b n l) (k : List UInt8) (hk : k.length ≤ 140737488355328) (hn : n ≤ 1000000) {B : Option Addr} {c : Nat} {vv : List UInt8} (s : Bs w B c vv) (hB : ∀ ad, B = some ad → H ≤ ad.block) :
    ∃ w', (Instr.mapUpdate 57 (.map (some b)) (.string ⟨k.toArray⟩) (.agg #[.slice B vv.length c])).run Try.prog w = .ok () w' ∧ TMapN w' H b (n + 1) (setR l k vv) ∧ Only w w' (fun i => i = b) := by
  have hno := h.old.noU8
  obtain ⟨h0, D, h1, h2, h3⟩ := h
  obtain ⟨w', hrun, hown, ht⟩ := h1.store K_str u_tmap (by unfold maxLen; have := h1.size_le; omega) (key := .string ⟨k.toArray⟩) (val := hvV B vv.length c) (kl := .string k) (d := .held (hvV B vv.length c)) (ps := []) (key_str (by simp only [maxLen]; omega)) rfl
  have k1 : Only w w' (fun i => i = b) := (Only.refl w _).grown ht.grown (fun k hk => by injection hk with hk; exact .inl hk.symm)
  exact ⟨w', hrun, ⟨h0, _, hown, (h2.put h1.isMap k vv hk s).bs (fun s => bs_only s k1 (fun i hi _ => by rw [hi]; exact hno)), h3.put h1.isMap k vv hB⟩, k1⟩
def RetLayN (w : World) (H b n : Nat) (l : List RowD) (e : Ending) (w' : World) : Prop := e = .returned (.tuple #[]) ∧ TMapN w' H b n l ∧ Only w w' (fun i => i = b)
set_option maxRecDepth 100000 in
set_option maxHeartbeats 1000000 in
theorem layN_any (H b n : Nat) (l : List RowD) (A C : Option Addr) (a c : Nat) (k v : List UInt8) (w : World) (h : TMapN w H b n l) (hH : H ≤ w.heap.size) (hk : Bs w A a k) (hv : Bs w C c v) (hn : n ≤ 1000000) :
    Calls Try.prog 54 #[.map (some b), .slice A k.length a, .slice C v.length c] w (RetLayN w H b (n + 1) (setR l k v)) := by
  have HT := Lib.hid h
  have HHS := Lib.hid hH
  have HK := Lib.hid hk
  have HN := Lib.hid hn
  have hkm : k.length ≤ 140737488355328 := hk.max
  have HKM := Lib.hid hkm
  have CL := Lib.hid (clone_any C c v w.drew (hv.drewN 1))
  have s0 := str_of A a k w.drew (hk.drewN 1)
  have D0 : Hid (Below w.heap.size w w.drew) := Lib.hid (below_drewN (Below.refl w.heap.size w) 1)
  clear h hH hk hv hkm
  generalize hkl : k.length = kl at *
  generalize hvl : v.length = vl at *
  have HVL := Lib.hid hvl
  have HKL := Lib.hid hkl
  clear hvl hkl
  go_enter Try.func54, Try.ntmps54
  go_wp2_with fail
  go_region_held3 (fun w' => (convert 27 9 (.slice A kl a)).run Try.prog w' = .ok (.string ⟨k.toArray⟩) w') (first | exact s0 | exact s1 | exact s9 | go_keep)
    (first | (go_at_call 56; refine CL.out.mono ?_; rintro e w2 ⟨B, d, rfl, s2, hb2, nw2⟩; have W2 := Lib.hid (below_step D0.out hb2); have s1 := str_of A a k w2 (HK.out.below (below_step D0.out hb2)); obtain ⟨w3, hrun, t3, k3⟩ := tstoreN_run (HT.out.keep (below_step D0.out hb2)) k (by have := HKM.out; have := HKL.out; omega) HN.out s2 (fun ad e => Nat.le_trans HHS.out (nw2 ad e)); have s9 := str_of A a k w3 (bs_only (HK.out.below (below_step D0.out hb2)) k3 (fun i hi _ => by rw [hi]; exact (HT.out.keep (below_step D0.out hb2)).old.noU8)); have T3 := Lib.hid t3; have K3 := Lib.hid ((Only.of_below W2.out (fun i => i = b)).then_ k3 (fun i h => .inl h)); rw [HKL.out] at s1 s9; rw [HVL.out] at hrun ⊢; clear s2 hb2 t3 k3))
  all_goals
    go_wp2_with fail
    go_end0
    exact ⟨rfl, T3.out, K3.out⟩
end Go.Proofs.Ytnhfeoniiadjfaa.Lst
/- FromBytes, plain: rows in the order of their keys. -/
namespace Go.Proofs.Ytnhfeoniiadjfaa.Lst
open Go.RowKit Go.Proofs.Ytnhfeoniiadjfaa.K Go.Proofs.Ytnhfeoniiadjfaa.Help Go.Proofs.Ytnhfeoniiadjfaa.Pfx Go.Proofs.Ytnhfeoniiadjfaa.Peer
set_option linter.unusedVariables false

def rowOf (s : SetD) : RowD := (s.1, s.2.1)
def stays (s : SetD) : Bool := !s.2.2
def fromD (L : List UInt8) : Option (List RowD) := if (getSetsD L).2 = 0 ∧ (getSetsD L).1.all stays = true then some ((getSetsD L).1.map rowOf) else none
theorem rise_of {l : List SetD} {n : Nat} (h : okS l n = true) : ∀ j, j < n → ∀ i, i < j → (l.getD i zeroSet).1 < (l.getD j zeroSet).1 := by
  have hall : ∀ k, k < n → okAtS l k = true := by unfold okS at h; exact of_decide_eq_true h
  intro j
  induction j with
  | zero => intro _ i hi; omega
  | succ j ih =>
    intro hj i hi
    have h1 := hall (j + 1) hj
    unfold okAtS at h1
    rw [Bool.and_eq_true, Bool.or_eq_true, decide_eq_true_eq, decide_eq_true_eq] at h1
    have h2 : (l.getD j zeroSet).1 < (l.getD (j + 1) zeroSet).1 := by
      rcases h1.2 with h | h
      · omega
      · simpa using h
    rcases Nat.lt_or_ge i j with h3 | h3
    · exact List.lt_trans (ih (by omega) i h3) h2
    · obtain rfl : i = j := by omega
      exact h2
theorem setR_last {l : List RowD} {k v : List UInt8} (h : ∀ r, r ∈ l → r.1 < k) : setR l k v = l ++ [(k, v)] := by
  unfold setR
  have e1 : l.filter (fun r => decide (r.1 < k)) = l := List.filter_eq_self.2 (fun r hr => by simpa using h r hr)
  have e2 : l.filter (fun r => decide (k < r.1)) = [] := List.filter_eq_nil_iff.2 (fun r hr => by
    rw [decide_eq_true_eq]
    intro h2
    exact lt_irr _ (List.lt_trans (h r hr) h2))
  rw [e1, e2]
theorem app_rise {l : List SetD} (h : okS l l.length = true) (hs : l.all stays = true) : ∀ k, k ≤ l.length → appL [] (l.take k) = (l.take k).map rowOf
  | 0, _ => by simp [appL]
  | k + 1, hk => by
    have ih := app_rise h hs k (by omega)
    have e : l.take (k + 1) = l.take k ++ [l.getD k zeroSet] := by
      rw [List.take_succ_eq_append_getElem (by omega)]; simp [show k < l.length by omega]
    have hg : (l.getD k zeroSet).2.2 = false := by
      have hm : l.getD k zeroSet ∈ l := mem_getD zeroSet (by omega)
      have := List.all_eq_true.1 hs _ hm
      simpa [stays] using this
    rw [e]
    unfold appL at ih ⊢
    rw [List.foldl_append, ih, List.map_append]
    simp only [List.foldl_cons, List.foldl_nil, List.map_cons, List.map_nil]
    unfold appS
    rw [hg, if_neg (by decide)]
    refine setR_last (fun r hr => ?_)
    obtain ⟨s, hs2, rfl⟩ := List.mem_map.1 hr
    obtain ⟨i, hi, rfl⟩ := List.mem_iff_getElem.1 hs2
    rw [List.length_take] at hi
    have := rise_of h k (by omega) i (by omega)
    rw [List.getElem_take]
    have e2 : l.getD i zeroSet = l[i] := by simp [show i < l.length by omega]
    rw [e2] at this
    exact this
theorem getSetsD_ok {L : List UInt8} (h : (getSetsD L).2 = 0) : okS (getSetsD L).1 (getSetsD L).1.length = true := by
  have e : getSetsD L = ((getSetsD L).1, 0) := by rw [← h]
  exact (put_get e).1
theorem getSetsD_len (L : List UInt8) : (getSetsD L).1.length ≤ L.length := setsGo_len _ _ _ (by omega) (by simp)
theorem fromD_some {L : List UInt8} {q : List RowD} (h : fromD L = some q) : Srt q ∧ (getSetsD L).2 = 0 ∧ (getSetsD L).1.all stays = true ∧ q = appL [] (getSetsD L).1 ∧ q = (getSetsD L).1.map rowOf := by
  unfold fromD at h
  split at h
  · rename_i h1
    injection h with h
    have h2 := app_rise (getSetsD_ok h1.1) h1.2 _ (Nat.le_refl _)
    rw [List.take_of_length_le (Nat.le_refl _)] at h2
    have h3 : q = appL [] (getSetsD L).1 := by rw [h2, h]
    exact ⟨by rw [h3]; exact srt_nil.appL _, h1.1, h1.2, h3, h.symm⟩
  · cases h
theorem all_stays_step {l : List SetD} {k : Nat} (hk : k < l.length) (h : (l.take k).all stays = true) (hg : (l.getD k zeroSet).2.2 = false) : (l.take (k + 1)).all stays = true := by
  have e : l.take (k + 1) = l.take k ++ [l.getD k zeroSet] := by
    rw [List.take_succ_eq_append_getElem hk]; simp [hk]
  rw [e, List.all_append, h]
  simp only [stays, hg, List.all_cons, List.all_nil]
  rfl
theorem all_stays_no {l : List SetD} {k : Nat} (hk : k < l.length) (hg : (l.getD k zeroSet).2.2 = true) : l.all stays = false := by
  cases h : l.all stays with
  | false => rfl
  | true =>
    have hm : l.getD k zeroSet ∈ l := mem_getD zeroSet hk
    have := List.all_eq_true.1 h _ hm
    simp only [stays, hg] at this
    cases this
def RetFB (w : World) (r : Option (List RowD)) (e : Ending) (w' : World) : Prop :=
  (∃ q p b n, r = some q ∧ e = .returned (.tuple #[.pointer (some ⟨p, 0, none⟩), .int .i64 0]) ∧ TTabN w' w.heap.size p b n q ∧ n ≤ 100000 ∧ Below w.heap.size w w') ∨ (r = none ∧ e = .returned (.tuple #[.pointer none, .int .i64 114]) ∧ Below w.heap.size w w')
end Go.Proofs.Ytnhfeoniiadjfaa.Lst
