/- Contracts of the functions that the laws of this seat reach: part 7 of 8. -/
import Derived.Test.YtnhfeoniiadjfaaC6
import Derived.Maps.AppendAt
import Derived.IntWalk
/- append of a list of sets to a list of the call's own. -/
namespace Go.Proofs.Ytnhfeoniiadjfaa.Lst
open Go.RowKit Go.Proofs.Ytnhfeoniiadjfaa.K Go.Proofs.Ytnhfeoniiadjfaa.Help Go.Proofs.Ytnhfeoniiadjfaa.Pfx Go.Proofs.Ytnhfeoniiadjfaa.Peer
set_option linter.unusedVariables false
theorem flatten_len {sz : Nat} : ∀ {raws : List (List Value)}, (∀ r, r ∈ raws → r.length = sz) → raws.flatten.length = raws.length * sz
  | [], _ => by simp
  | r :: t, h => by
    rw [List.flatten_cons, List.length_append, flatten_len (fun r hr => h r (List.mem_cons_of_mem _ hr)), h r List.mem_cons_self, List.length_cons, Nat.succ_mul]
    omega
theorem Lst.raws {α : Type} {E : Elem α} {w : World} {N : Nat → Prop} {A : Option Addr} {c : Nat} {m : List α} (h : Lst E w N A c m) :
    ∃ raws : List (List Value), raws.length = m.length ∧ ∀ (i : Nat) (x : α) (raw : List Value), m[i]? = some x → raws[i]? = some raw → (∃ bk off, A = some ⟨bk, off, none⟩ ∧ ∀ j, j < E.sz → w.cell? ⟨bk, off + i * E.sz + j, none⟩ = raw[j]?) ∧ E.R w N raw x := by
  have h1 : ∀ i : Fin m.length, ∃ raw : List Value, (∃ bk off, A = some ⟨bk, off, none⟩ ∧ ∀ j, j < E.sz → w.cell? ⟨bk, off + i.1 * E.sz + j, none⟩ = raw[j]?) ∧ E.R w N raw m[i.1] := fun i => by
    obtain ⟨bk, off, raw, e, _, _, hc, hr⟩ := h.at_ i.1 m[i.1] (List.getElem?_eq_getElem i.2)
    exact ⟨raw, ⟨bk, off, e, hc⟩, hr⟩
  obtain ⟨f, hf⟩ := Classical.axiomOfChoice h1
  refine ⟨List.ofFn f, List.length_ofFn, fun i x raw hx hw => ?_⟩
  have hi := (List.getElem?_eq_some_iff.1 hx).1
  have ex : m[i] = x := (List.getElem?_eq_some_iff.1 hx).2
  have er : f ⟨i, hi⟩ = raw := by
    have h2 := (List.getElem?_eq_some_iff.1 hw).2
    rw [List.getElem_ofFn] at h2
    exact h2
  have h3 := hf ⟨i, hi⟩
  rw [er] at h3
  dsimp only at h3
  rw [ex] at h3
  exact h3
theorem ownS_empty (w : World) (B : Nat) (hB : B ≤ w.heap.size) : OwnL SetE 37 (w.alloc (.cells #[] 37)) (fun _ => False) B (.slice (some ⟨w.heap.size, 0, none⟩) 0 0) [] :=
  ⟨[], rfl, ⟨rfl, .inr ⟨w.heap.size, 0, #[], rfl, hB, blk_new w _, Nat.le_refl _, Nat.zero_le _, rfl, rfl⟩⟩, by simp, fun i x raw h => by simp at h⟩
section
variable {ops : Array Oper} {rest : List Oper} {o : Oper} {a : Act} {Q : Exit → Act → World → Prop}
theorem run_appS_nil (w : World) (N : Nat → Prop) (base : Nat) (ty : TypeId) (v : Value) (l : List SetD) (h : OwnL SetE 37 w N base v l) (c : Nat) : (Builtin.append_ #[22, 22] ty #[v, .slice none 0 c]).run Try.prog w = .ok v w := by
  obtain ⟨i0, hi, hzz⟩ := Option.map_eq_some_iff.1 info_set
  have hu : Try.prog.underlying 22 = some (.slice 37) := Try.underlying22
  obtain ⟨raws, _, h1, _⟩ := h
  rcases h1.2 with ⟨rfl, _⟩ | ⟨g, cap, cur, rfl, _, _, hnc, _⟩
  · simp [Builtin.append_, run_underlying hu, sizeOf, typeInfo, hi, Builtin.lenOf, Builtin.firstCells]
  · simp [Builtin.append_, run_underlying hu, sizeOf, typeInfo, hi, Builtin.lenOf, Builtin.firstCells, hnc, storeCells]
/-- append(v, m...): a list of sets -/
theorem pushS {B : Nat} {W : World} (hgd : o.guard = none) (s xo : Operand)
    (ho : o.op = .call { callee := .builtin .append, args := #[s, xo], argTypes := #[22, 22] })
    (v : Value) (l m : List SetD) (A : Option Addr) (mc : Nat) (hs : a.eval s = v) (hx : a.eval xo = .slice A m.length mc)
    (HO : OwnL SetE 37 W (fun _ => False) B v l) (HM : Lst SetE W (fun k => v.ownBlock = some k) A mc m) (hBW : B ≤ W.heap.size) (hl : l.length + m.length ≤ 1000000)
    (h : ∀ A' c' w1, OwnL SetE 37 w1 (fun _ => False) B (.slice A' (l ++ m).length c') (l ++ m) → Only W w1 (fun k => v.ownBlock = some k) → (∀ k, (Value.slice A' (l ++ m).length c').ownBlock = some k → v.ownBlock = some k ∨ W.heap.size ≤ k) → wpList Try.prog ops Q rest (a.put o.dst (.slice A' (l ++ m).length c')) w1) :
    wpList Try.prog ops Q (o :: rest) a W := by
  rcases A with _ | ad
  · have h0 : m = [] := by
      rcases m with _ | ⟨y, r⟩
      · rfl
      · obtain ⟨_, _, _, h', _⟩ := HM.at_ 0 y rfl
        cases h'
    subst h0
    rw [List.append_nil] at h
    obtain ⟨A', c', rfl⟩ := HO.slice
    have hrun := run_appS_nil W _ B o.type _ l HO mc
    refine wpList_plain hgd fun K hK => ?_
    unfold Oper.wp
    simp [execOp, ho, resolve, invoke, builtin, hs, hx, hrun, Result.andThen]
    exact hK _ _ (h A' c' W HO (Only.refl _ _) (fun k hk => .inl hk))
  · obtain ⟨raws, hrl, hown, hm, hR⟩ := HO
    obtain ⟨raws2, hrl2, hR2⟩ := HM.raws
    obtain ⟨i0, hi, hzz⟩ := Option.map_eq_some_iff.1 info_set
    simp only [Prod.mk.injEq] at hzz
    obtain ⟨hz0, hz1, hz2⟩ := hzz
    have hel : ∀ i (hi : i < raws2.length), ∃ x, m[i]? = some x ∧ SetE.R W (fun k => v.ownBlock = some k) raws2[i] x := fun i hi => by
      have hi2 : i < m.length := by omega
      exact ⟨m[i], List.getElem?_eq_getElem hi2, (hR2 i m[i] raws2[i] (List.getElem?_eq_getElem hi2) (List.getElem?_eq_getElem hi)).2⟩
    have hsz2 : ∀ r, r ∈ raws2 → r.length = SetE.sz := fun r hr => by
      obtain ⟨i, hi, rfl⟩ := List.mem_iff_getElem.1 hr
      obtain ⟨x, _, h2⟩ := hel i hi
      exact SetE.len h2
    have hlen2 : raws2.flatten.length = m.length * SetE.sz := by rw [flatten_len hsz2, hrl2]
    refine wpList_append_own_at W hgd s xo 22 ho B 37 i0 _ SetE.sz 56 Try.underlying22 hi hz0 hz1 hz2 (by decide) (by decide) v l.length raws.flatten hs hown ad m.length mc raws2.flatten hx hlen2
      ?_ ?_ (by simp only [maxLen]; omega) (by omega) hBW ?_
    · intro j u hu
      have hj : j < m.length * 3 := by
        have := (List.getElem?_eq_some_iff.1 hu).1
        rw [hlen2] at this
        exact this
      have hd : j / 3 < m.length := by omega
      have hd2 : j / 3 < raws2.length := by omega
      have hm3 : j % 3 < 3 := Nat.mod_lt _ (by decide)
      have hf := flat_at hsz2 (j / 3) (j % 3) raws2[j / 3] (List.getElem?_eq_getElem hd2) hm3
      have hj3 : j / 3 * 3 + j % 3 = j := by omega
      obtain ⟨⟨bk, off, e, hc⟩, _⟩ := hR2 (j / 3) m[j / 3] raws2[j / 3] (List.getElem?_eq_getElem hd) (List.getElem?_eq_getElem hd2)
      cases e
      have h3 := hc (j % 3) hm3
      rw [show j / 3 * SetE.sz + j % 3 = j from hj3] at hf
      rw [show (⟨bk, off, none⟩ : Addr).add j = ⟨bk, off + j, none⟩ by simp [Addr.add]]
      rw [show off + j / 3 * SetE.sz + j % 3 = off + j by show off + j / 3 * 3 + j % 3 = off + j; omega] at h3
      rw [h3, ← hf]
      exact hu
    · intro u hu
      obtain ⟨r, hr, hur⟩ := List.mem_flatten.1 hu
      obtain ⟨i, hi, rfl⟩ := List.mem_iff_getElem.1 hr
      obtain ⟨x, _, h2⟩ := hel i hi
      exact SetE.one h2 u hur
    · intro v1 w1 hown1 hg _ hat
      have k : Only W w1 (fun k => v.ownBlock = some k) := (Only.refl W (fun k => v.ownBlock = some k)).grown hg (fun k hk => .inl hk)
      have hat2 : ∀ k, v1.ownBlock = some k → v.ownBlock = some k ∨ W.heap.size ≤ k := fun k hk => by
        rcases hat with hat | hat
        · exact .inl (by rw [← hat]; exact hk)
        · rw [hat] at hk; exact .inr (by injection hk with hk; omega)
      have hO : OwnL SetE 37 w1 (fun _ => False) B v1 (l ++ m) := by
        refine ⟨raws ++ raws2, by rw [List.length_append, List.length_append, hrl, hrl2], ?_, by rw [List.length_append]; omega, fun i y r hy hw => ?_⟩
        · rw [List.flatten_append, List.length_append]; exact hown1
        · have hT : SetE.R W (fun k => (fun _ => False) k ∨ v.ownBlock = some k) r y := by
            by_cases hii : i < l.length
            · exact hR i y r (by rw [List.getElem?_append_left hii] at hy; exact hy) (by rw [List.getElem?_append_left (by omega)] at hw; exact hw)
            · rw [List.getElem?_append_right (by omega)] at hy
              rw [List.getElem?_append_right (by omega), hrl] at hw
              exact SetE.reno (hR2 _ y r hy hw).2 (fun k hk => .inl (hk.elim False.elim id))
          have hT2 : SetE.R W (fun k => ((fun _ => False) k ∨ v.ownBlock = some k) ∨ v1.ownBlock = some k) r y := SetE.reno hT (fun k hk => hk.elim .inl (fun h => (hat2 k h).imp .inr id))
          exact SetE.reno (SetE.only hT2 k (fun i _ hi => .inl (.inr hi))) (fun k hk => .inl (hk.elim (fun h => .inl (.inl h)) .inr))
      obtain ⟨A', c', e⟩ := OwnL.slice hO
      subst e
      exact h A' c' w1 hO k hat2
end
end Go.Proofs.Ytnhfeoniiadjfaa.Lst
/- done of the law. -/
namespace Go.Proofs.Ytnhfeoniiadjfaa.Lst
open Go.RowKit Go.Proofs.Ytnhfeoniiadjfaa.K Go.Proofs.Ytnhfeoniiadjfaa.Help Go.Proofs.Ytnhfeoniiadjfaa.Pfx Go.Proofs.Ytnhfeoniiadjfaa.Peer
set_option linter.unusedVariables false
theorem has_del (l : List RowD) (k : List UInt8) : hasK (delR l k) k = false := by
  cases h : hasK (delR l k) k with
  | false => rfl
  | true =>
    obtain ⟨r, hr, e⟩ := List.mem_map.1 (hasK_mem.1 h)
    exact absurd e (mem_delR.1 hr).2
theorem appL_step (l : List RowD) (ss : List SetD) (k : Nat) (hk : k < ss.length) : appL l (ss.take (k + 1)) = appS (appL l (ss.take k)) (ss.getD k zeroSet) := by
  rw [List.take_succ_eq_append_getElem hk, appL_app]
  have e : ss[k] = ss.getD k zeroSet := by simp [hk]
  rw [e]
  rfl
def RetDn (w : World) (p b n : Nat) (l : List RowD) (c m : Nat) (q : List RowD) (ss : List SetD) (e : Ending) (w' : World) : Prop :=
  e = .returned (.bool true) ∧ TOver w' p b (n + ss.length) (appL l ss) c m q ∧ Only w w' (fun i => i = b)
set_option maxRecDepth 100000 in
set_option maxHeartbeats 4000000 in
theorem done_any (p b n c m : Nat) (l q : List RowD) (A : Option Addr) (a : Nat) (ss : List SetD) (w : World) (h : TOver w p b n l c m q) (hs : Lst SetE w (fun _ => False) A a ss) (hn : n ≤ 50000) (hm : ss.length ≤ 50000) (hall : ss.all mayB = true) :
    Calls Try.prog 30 #[.pointer (some ⟨p, 0, none⟩), .slice A ss.length a] w (RetDn w p b n l c m q ss) := by
  have T0 := Lib.hid h
  have HS := Lib.hid (hs.avoidS h.is_.noCell)
  have h1 := hs.le
  have h2 := hs.max
  have HA : Hid (∀ k, k < ss.length → mayB (ss.getD k zeroSet) = true) := Lib.hid (fun k hk => by
    have := List.all_eq_true.1 hall (ss[k]) (List.getElem_mem hk)
    rwa [show ss[k] = ss.getD k zeroSet by simp [hk]] at this)
  clear h hs hall
  unfold RetDn
  generalize hl : ss.length = z at *
  have HZ := Lib.hid hl
  clear hl
  go_enter Try.func30, Try.ntmps30
  go_wp2_with fail
  go_loopg [5] z (fun gk i wr => ∃ k : Nat, k ≤ z ∧ gk = z - k ∧ i = .int .i64 (k : Int) ∧ Hid (TOver wr p b (n + k) (appL l (ss.take k)) c m q) ∧ Hid (Only w wr (fun i => i = b)))
  case atStart => exact ⟨0, by omega, rfl, rfl, by rw [List.take_zero]; exact T0, Only.refl _ _⟩
  case round =>
    obtain ⟨k, hk, rfl, rfl, HT, HO⟩ := hrel
    by_cases hlt : k < z
    · have i1 : (k : Int) < (z : Int) := by omega
      have i0 : (0 : Int) ≤ (k : Int) := by omega
      have HM := Lib.hid (HA.out k hlt)
      have HST := Lib.hid (appL_step l ss k (by rw [HZ.out]; exact hlt))
      generalize hl2 : appL l (ss.take (k + 1)) = l2 at *
      have HL2 := Lib.hid hl2
      clear hl2
      generalize appL l (ss.take k) = l1 at *
      have HSr := Lib.hid ((HS.out.only HO.out (fun i _ hi => hi)).reno (N' := fun _ => False) (fun i hi => hi.elim))
      obtain ⟨bk, off, A1, a1, B1, b1, rfl, hbk, d0, d1, d2, s1, s2⟩ := HSr.out.set k _ (getD_get zeroSet (by rw [HZ.out]; exact hlt))
      obtain ⟨⟨xk, xv, xg⟩, hx⟩ : ∃ y, ss.getD k zeroSet = y := ⟨_, rfl⟩
      rw [hx] at d0 d1 d2 s1 s2 HM HST
      dsimp only at d0 d1 d2 s1 s2
      have c0 := HT.out.c0
      have HBK := Lib.hid hbk
      have D0 := Lib.hid d0
      have S1 := Lib.hid s1.1
      have S2 := Lib.hid s2.1
      have HD : Hid (Below wr.heap.size wr wr.drew) := Lib.hid (below_drewN (Below.refl _ _) 1)
      clear s1 s2 hbk hx
      cases xg
      · have HST2 : Hid (l2 = setR l1 xk xv) := Lib.hid HST.out
        have OS := Lib.hid (oset_any p b (n + k) c m l1 q A1 B1 a1 b1 xk xv wr.drew (HT.out.keep HD.out) (S1.out.below HD.out) (S2.out.below HD.out) (by omega))
        clear HST
        go_wp2_with fail
        go_region_held3 (fun w' => w'.cell? ⟨bk, off + k * 3, none⟩ = some (.slice A1 xk.length a1) ∧ w'.cell? ⟨bk, off + k * 3 + 1, none⟩ = some (.slice B1 xv.length b1)) (first | exact ⟨g0, g1⟩ | go_keep)
          (first | (go_at_call 45; refine OS.out.mono ?_; rintro e w3 (⟨-, rfl, t3, k3⟩ | ⟨hf, -, -⟩); rotate_left; exact absurd (HM.out.symm.trans hf) (by decide)
                    have T3 := Lib.hid t3; have K3 := Lib.hid ((Only.of_below HD.out (fun i => i = b)).then_ k3 (fun i h => .inl h)); have MB := (HT.out.is_.isMap).noCell; have g0 : w3.cell? ⟨bk, off + k * 3, none⟩ = some (.slice A1 xk.length a1) := (cell_blk (ad := ⟨bk, _, none⟩) (K3.out.block bk HBK.out (fun e => by rw [e, MB] at d0; cases d0))).trans d0; have g1 : w3.cell? ⟨bk, off + k * 3 + 1, none⟩ = some (.slice B1 xv.length b1) := (cell_blk (ad := ⟨bk, _, none⟩) (K3.out.block bk HBK.out (fun e => by rw [e, MB] at d0; cases d0))).trans d1; clear t3 k3))
        all_goals
          have T4 : Hid (TOver w3 p b (n + (k + 1)) l2 c m q) := Lib.hid (by rw [HST2.out, ← Nat.add_assoc]; exact T3.out)
          have K4 := Lib.hid (HO.out.then_ K3.out (fun i h => .inl h))
          clear g0 g1 d0 d1 d2 c0
          go_wp2_with fail
          (with_reducible refine (num13_any _ _).mono ?_)
          rintro e wq ⟨rfl, rfl⟩
          go_wp2_with fail
          go_roundg (z - (k + 1))
          case measure => omega
          case rel => exact ⟨k + 1, by omega, rfl, by go_num, by rw [HL2.out]; exact T4, K4⟩
      · have HST2 : Hid (l2 = delR l1 xk) := Lib.hid HST.out
        have GT := Lib.hid (get_any b (n + k) l1 A1 a1 xk wr.drew (HT.out.keep HD.out).is_ (S1.out.below HD.out))
        have HPB := Lib.hid HT.out.lt
        clear HST
        go_wp2_with fail
        go_region_held3 (fun w' => w'.cell? ⟨p, 0, none⟩ = some (.map (some b)) ∧ w'.cell? ⟨bk, off + k * 3, none⟩ = some (.slice A1 xk.length a1)) (first | exact ⟨g0, g1⟩ | go_keep)
          (first | (go_at_call 25; refine GT.out.mono ?_; rintro e w3 ⟨B3, d3, rfl, -, hb3, -⟩; have B3' := Lib.hid (below_step HD.out hb3); have g0 : w3.cell? ⟨p, 0, none⟩ = some (.map (some b)) := (B3'.out.cell (p := ⟨p, _, none⟩) HPB.out).trans c0; have g1 : w3.cell? ⟨bk, off + k * 3, none⟩ = some (.slice A1 xk.length a1) := (B3'.out.cell (p := ⟨bk, _, none⟩) HBK.out).trans d0; clear hb3))
        all_goals
          have T3 := Lib.hid (HT.out.keep B3'.out)
          have OD := Lib.hid (odel_any p b (n + k) c m l1 q A1 a1 xk w3 T3.out (S1.out.below B3'.out))
          have ISM := Lib.hid (T3.out.is_.isMap)
          clear d0 d1 d2 c0
          go_wp2_with fail
          (with_reducible refine OD.out.mono ?_)
          rintro e w4 ⟨rfl, t4, k4⟩
          have HD4 : Hid (Below w4.heap.size w4 w4.drew) := Lib.hid (below_drewN (Below.refl _ _) 1)
          have T4 := Lib.hid t4
          have K4 := Lib.hid (((Only.of_below B3'.out (fun i => i = b)).then_ k4 (fun i h => .inl h)))
          have S4 := Lib.hid (bs_only (S1.out.below B3'.out) k4 (fun i hi _ => by rw [hi]; exact ISM.out.noU8))
          have GT4 := Lib.hid (get_any b (n + k) (delR l1 xk) A1 a1 xk w4.drew (T4.out.keep HD4.out).is_ (S4.out.below HD4.out))
          have HPB4 := Lib.hid T4.out.lt
          have HBK4 : Hid (bk < w4.heap.size) := Lib.hid (Nat.lt_of_lt_of_le HBK.out (Nat.le_trans B3'.out.size k4.size))
          have c0 := T4.out.c0
          have d0 : w4.cell? ⟨bk, off + k * 3, none⟩ = some (.slice A1 xk.length a1) := (cell_blk (ad := ⟨bk, _, none⟩) (k4.block bk (Nat.lt_of_lt_of_le HBK.out B3'.out.size) (fun e => by rw [e, ISM.out.noCell] at g1; cases g1))).trans g1
          rw [has_del] at GT4
          generalize hasK l1 xk = hk at *
          clear t4 k4 g0 g1 GT
          go_wp2_with fail
          go_region_held3 (fun w' => w'.cell? ⟨p, 0, none⟩ = some (.map (some b)) ∧ w'.cell? ⟨bk, off + k * 3, none⟩ = some (.slice A1 xk.length a1)) (first | exact ⟨j0, j1⟩ | go_keep)
            (first | (go_at_call 25; refine GT4.out.mono ?_; rintro e w5 ⟨B5, d5, rfl, -, hb5, -⟩; have B5' := Lib.hid (below_step HD4.out hb5); have j0 : w5.cell? ⟨p, 0, none⟩ = some (.map (some b)) := (B5'.out.cell (p := ⟨p, _, none⟩) HPB4.out).trans c0; have j1 : w5.cell? ⟨bk, off + k * 3, none⟩ = some (.slice A1 xk.length a1) := (B5'.out.cell (p := ⟨bk, _, none⟩) HBK4.out).trans d0; clear hb5))
          all_goals
            have T5 : Hid (TOver w5 p b (n + (k + 1)) l2 c m q) := Lib.hid (by rw [HST2.out]; exact ⟨(T4.out.keep B5'.out).blk, (T4.out.keep B5'.out).is_.more (by omega), (T4.out.keep B5'.out).was, (T4.out.keep B5'.out).ne⟩)
            have K5 := Lib.hid ((HO.out.then_ K4.out (fun i h => .inl h)).then_ (Only.of_below B5'.out (fun i => i = b)) (fun i h => .inl h))
            have hne : (hk != hk) = false := by simp
            clear j0 j1 d0 c0
            go_wp2_with fail
            go_roundg (z - (k + 1))
            case measure => omega
            case rel => exact ⟨k + 1, by omega, rfl, by go_num, by rw [HL2.out]; exact T5, K5⟩
    · obtain rfl : k = z := by omega
      have i1 : ¬ (k : Int) < (k : Int) := by omega
      go_wp2_with fail
      go_ret
      exact ⟨rfl, by have := HT.out; rwa [← HZ.out, List.take_length, HZ.out] at this, HO.out⟩
end Go.Proofs.Ytnhfeoniiadjfaa.Lst
/- The walk of TableOver. -/
namespace Go.Proofs.Ytnhfeoniiadjfaa.tableOver
open Go.RowKit Go.Proofs.Ytnhfeoniiadjfaa.K Go.Proofs.Ytnhfeoniiadjfaa.Help Go.Proofs.Ytnhfeoniiadjfaa.Lst Go.Proofs.Ytnhfeoniiadjfaa.Peer
open Go.Proofs.Ytnhfeoniiadjfaa.tableFold (getD_memS)
set_option linter.unusedVariables false
theorem risesS {l : List SetD} (h : l.Pairwise (fun a b => a.1 < b.1)) {k : Nat} (hk : k + 1 < l.length) : lessB (l.getD k zeroSet).1 (l.getD (k + 1) zeroSet).1 = true := by
  rw [lessB_iff, decide_eq_true_eq]
  have := List.pairwise_iff_getElem.1 h k (k + 1) (by omega) hk (by omega)
  rwa [show l.getD k zeroSet = l[k] by simp [show k < l.length by omega], show l.getD (k + 1) zeroSet = l[k + 1] by simp [hk]]
theorem setsOf_len (was is_ : List RowD) : (setsOf was is_).length ≤ was.length + is_.length := by
  rw [(setsOf_perm was is_).length_eq, List.length_append]
  have h1 := List.length_filterMap_le (fA was) is_
  have h2 := List.length_filterMap_le (fB is_) was
  omega
set_option maxRecDepth 100000 in
set_option maxHeartbeats 8000000 in
theorem walk (A : Option Addr) (a : Nat) (l : List SetD) (A' : Option Addr) (a' : Nat) (m : List SetD) (A'' : Option Addr) (a'' : Nat) (o : List SetD) (W : World) (hl : Lst SetE W (fun _ => False) A a l) (hm : Lst SetE W (fun _ => False) A' a' m) (ho : Lst SetE W (fun _ => False) A'' a'' o) :
    Calls Try.prog 5 #[.slice A l.length a, .slice A' m.length a', .slice A'' o.length a''] W fun e W' => e = .returned (.bool true) ∧ Below W.heap.size W W' := by
  have P1 := Lib.hid (first13_any W)
  have S0 := hand (hand (hstart ho) hm) hl
  clear hl hm ho
  obtain ⟨nl, hnl⟩ : ∃ n, n = l.length := ⟨_, rfl⟩
  obtain ⟨nm, hnm⟩ : ∃ n, n = m.length := ⟨_, rfl⟩
  obtain ⟨no, hno⟩ : ∃ n, n = o.length := ⟨_, rfl⟩
  rw [← hnl, ← hnm, ← hno]
  have HNL := Lib.hid hnl
  have HNM := Lib.hid hnm
  have HNO := Lib.hid hno
  clear hnl hnm hno
  go_enter Try.func5, Try.ntmps5
  go_wp2_with fail
  (with_reducible refine P1.out.mono ?_)
  rintro e w1 ⟨rfl, hb1⟩
  have S1 := hand (hkeep hb1 S0) hb1
  clear hb1 S0 P1
  have F1 : Hid (Calls Try.prog 19 #[.slice A nl a, .int .i64 1000] w1 (RetFt w1 (fitD l 1000))) := by
    have := fit_any A a l 1000 w1 S1.out.2.1 (by decide)
    rw [← HNL.out] at this
    exact Lib.hid this
  have F2 : Hid (∀ w, Lst SetE w (fun _ => False) A' a' m → Calls Try.prog 19 #[.slice A' nm a', .int .i64 1000] w (RetFt w (fitD m 1000))) := Lib.hid (fun w h => by
    have := fit_any A' a' m 1000 w h (by decide)
    rw [← HNM.out] at this
    exact this)
  have F3 : Hid (∀ w, Lst SetE w (fun _ => False) A'' a'' o → Calls Try.prog 19 #[.slice A'' no a'', .int .i64 1000] w (RetFt w (fitD o 1000))) := Lib.hid (fun w h => by
    have := fit_any A'' a'' o 1000 w h (by decide)
    rw [← HNO.out] at this
    exact this)
  have HLA := Lib.hid (fitD_all l 1000)
  have HLL := Lib.hid (fitD_len l 1000)
  generalize fitD l 1000 = L at *
  have HMA := Lib.hid (fitD_all m 1000)
  have HML := Lib.hid (fitD_len m 1000)
  generalize fitD m 1000 = M at *
  have HOA := Lib.hid (fitD_all o 1000)
  have HOL := Lib.hid (fitD_len o 1000)
  generalize fitD o 1000 = O at *
  clear HNL HNM HNO
  go_wp2_with fail
  (with_reducible refine F1.out.mono ?_)
  rintro e w2 ⟨A2, a2, rfl, o2, hb2⟩
  obtain ⟨A2', a2', e2, l2⟩ := o2.lst (fun _ _ h => h)
  cases e2
  have S2 := hand (hkeep hb2 S1) l2
  clear o2 l2 hb2 S1 F1
  go_wp2_with fail
  (with_reducible refine (F2.out w2 S2.out.2.2.2.1).mono ?_)
  rintro e w3 ⟨A3, a3, rfl, o3, hb3⟩
  obtain ⟨A3', a3', e3, l3⟩ := o3.lst (fun _ _ h => h)
  cases e3
  have S3 := hand (hkeep hb3 S2) l3
  clear o3 l3 hb3 S2 F2
  have B1 := Lib.hid (fun w h => built_any A2 a2 L w h (by have := HLL.out; omega) HLA.out)
  obtain ⟨T, hT⟩ : ∃ T, T = appL [] L := ⟨_, rfl⟩
  have HT := Lib.hid hT
  rw [← hT] at B1
  clear hT
  obtain ⟨n, hn⟩ : ∃ n, n = L.length := ⟨_, rfl⟩
  have HN := Lib.hid hn
  have hnb : n ≤ 1000 := by rw [hn]; exact HLL.out
  rw [← hn] at B1 ⊢
  clear hn
  obtain ⟨k, hk⟩ : ∃ n, n = M.length := ⟨_, rfl⟩
  have HK := Lib.hid hk
  have hkb : k ≤ 1000 := by rw [hk]; exact HML.out
  rw [← hk]
  clear hk
  go_wp2_with fail
  (with_reducible refine (B1.out w3 S3.out.2.1).mono ?_)
  rintro e w4 ⟨pt, bt, rfl, t4, -, hbt, hb4⟩
  have HBT : Hid (W.heap.size ≤ bt) := Lib.hid (Nat.le_trans S3.out.2.2.1.size hbt)
  have S4 := hand (hkeep hb4 S3) t4
  clear t4 hbt hb4 S3
  go_wp2_with fail
  (with_reducible refine (B1.out w4 S4.out.2.2.1).mono ?_)
  rintro e w5 ⟨pu, bu, rfl, t5, -, hbu, hb5⟩
  have N1 : NeN bu bt := ⟨by have := S4.out.1.map.lt; omega⟩
  have N2 : NeN bt bu := ⟨fun e => N1.ne e.symm⟩
  have HBU : Hid (W.heap.size ≤ bu) := Lib.hid (Nat.le_trans S4.out.2.2.2.1.size hbu)
  have S5 := hand (hkeep hb5 S4) t5
  clear t5 hbu hb5 S4 B1
  have Q1 := Lib.hid (tbytes_any pt bt _ T w5 S5.out.2.1 (by omega))
  have Q2 := Lib.hid (fun w h => tbytes_any pu bu n T w h (by omega))
  generalize (putSetsD (T.map setOf)).1 = bT at *
  go_wp2_with fail
  (with_reducible refine Q1.out.mono ?_)
  rintro e w6 ⟨A6, c6, rfl, s6, hb6⟩
  have S6 := hand (hkeep hb6 S5) s6
  clear s6 hb6 S5 Q1
  have O1 := Lib.hid (over_any pt bt _ T w6 S6.out.2.2.1 (by omega))
  go_wp2_with fail
  (with_reducible refine O1.out.mono ?_)
  rintro e w7 ⟨po, bo, co, rfl, -, hbo, hco, t7, hb7⟩
  have N3 : NeN bt bo := ⟨by have := S6.out.2.2.1.map.lt; omega⟩
  have N4 : NeN bu bo := ⟨by have := S6.out.2.1.map.lt; omega⟩
  have N5 : NeN bo bt := ⟨fun e => N3.ne e.symm⟩
  have N6 : NeN bo bu := ⟨fun e => N4.ne e.symm⟩
  have N7 : NeN co bt := ⟨by have := S6.out.2.2.1.map.lt; omega⟩
  have N8 : NeN co bu := ⟨by have := S6.out.2.1.map.lt; omega⟩
  have HBO : Hid (W.heap.size ≤ bo) := Lib.hid (Nat.le_trans S6.out.2.2.2.2.2.1.size hbo)
  have S7 := hand (hkeep hb7 S6) t7
  clear t7 hbo hco hb7 S6 O1
  go_wp2_with fail
  (with_reducible refine (F3.out w7 S7.out.2.2.2.2.2.2.2.2.2.1).mono ?_)
  rintro e w8 ⟨A8, a8, rfl, o8, hb8⟩
  obtain ⟨A8', a8', e8, l8⟩ := o8.lst (fun _ _ h => h)
  cases e8
  have S8 := hand (hkeep hb8 S7) l8
  have T8 := Lib.hid S8.out.2.2.2.2.1
  have S8' := Lib.hid (⟨S8.out.1, S8.out.2.1, S8.out.2.2.1, S8.out.2.2.2.1, S8.out.2.2.2.2.2.1, S8.out.2.2.2.2.2.2.1, S8.out.2.2.2.2.2.2.2.1, trivial⟩ : _ ∧ _ ∧ _ ∧ _ ∧ _ ∧ _ ∧ _ ∧ True)
  clear o8 l8 hb8 S7 F3 S8
  have AP := Lib.hid (apply_any pt bt n T A8 a8 O w8 T8.out S8'.out.1 (by omega) (by have := HOL.out; omega))
  go_wp2_with fail
  (with_reducible refine AP.out.mono ?_)
  rintro e w9 (⟨-, rfl, t9, k9⟩ | ⟨hf, -, -⟩)
  rotate_left
  · exact absurd (HOA.out.symm.trans hf) (by decide)
  have S9 := hand (mkeep k9 T8.out.map.isMap HBT.out S8') t9
  clear t9 k9 S8' T8 AP
  generalize appL T O = T2 at *
  have Q3 := Lib.hid (fun w h => tbytes_any pt bt _ T2 w h (show n + O.length ≤ 100000 by have := HOL.out; omega))
  generalize (putSetsD (T2.map setOf)).1 = bT2 at *
  go_wp2_with fail
  (with_reducible refine (Q3.out w9 S9.out.1).mono ?_)
  rintro e w10 ⟨A10, c10, rfl, s10, hb10⟩
  have S10 := hand (hkeep hb10 S9) s10
  have T10 := Lib.hid S10.out.2.2.2.1
  have S10' := Lib.hid (⟨S10.out.1, S10.out.2.1, S10.out.2.2.2.2.1, S10.out.2.2.2.2.2.1, S10.out.2.2.2.2.2.2.1, S10.out.2.2.2.2.2.2.2.1, S10.out.2.2.2.2.2.2.2.2.1, trivial⟩ : _ ∧ _ ∧ _ ∧ _ ∧ _ ∧ _ ∧ _ ∧ True)
  clear s10 hb10 S9 S10
  have HTL : Hid (T.length ≤ n) := Lib.hid (by rw [HT.out, HN.out]; have := appL_len L []; simpa using this)
  have DN := Lib.hid (done_any po bo T.length co T.length T T A3 a3 M w10 T10.out S10'.out.2.2.2.2.1 (by have := HTL.out; omega) (by rw [← HK.out]; omega) HMA.out)
  rw [← HK.out] at DN
  go_wp2_with fail
  (with_reducible refine DN.out.mono ?_)
  rintro e w11 ⟨rfl, t11, k11⟩
  have S11 := hand (mkeep k11 T10.out.is_.isMap HBO.out S10') t11
  clear t11 k11 S10' T10 DN
  go_wp2_with fail
  (with_reducible refine (Q3.out w11 S11.out.2.2.1).mono ?_)
  rintro e w12 ⟨A12, c12, rfl, s12, hb12⟩
  have S12 := hand (hkeep hb12 S11) s12
  clear s12 hb12 S11 Q3
  go_wp2_with fail
  (with_reducible refine (num13_any _ _).mono ?_)
  rintro e wq ⟨rfl, rfl⟩
  have P8 := Lib.hid (Help.sameBytes A10 A12 c10 c12 bT2 bT2 w12 S12.out.2.2.1 S12.out.1)
  rw [show decide (bT2 = bT2) = true by simp] at P8
  go_wp2_with fail
  (with_reducible refine P8.out.mono ?_)
  rintro e w13 ⟨q13, rfl, rfl⟩
  have S13 := hkeep (below_drewN (Below.refl w12.heap.size w12) q13) S12
  generalize w12.drewN q13 = w13 at *
  clear P8 S12
  obtain ⟨R, hR⟩ : ∃ R, R = appL T M := ⟨_, rfl⟩
  have HR := Lib.hid hR
  have OS := Lib.hid (osets_any po bo (T.length + M.length) co T.length (appL T M) T w13 S13.out.2.1 (by have := HTL.out; have := HK.out; omega) (by have := HTL.out; omega))
  rw [← hR] at OS
  clear hR
  have HTS : Hid (Srt T) := Lib.hid (by rw [HT.out]; exact appL_srt L)
  have HRS : Hid (Srt R) := Lib.hid (by rw [HR.out]; exact Srt.appL M HTS.out)
  have HTM : Hid (RMay T) := Lib.hid (by rw [HT.out]; exact rmay_appL rmay_nil HLA.out)
  have HRM : Hid (RMay R) := Lib.hid (by rw [HR.out]; exact rmay_appL HTM.out HMA.out)
  have HSP := Lib.hid (setsOf_rise HTS.out HRS.out)
  have HSM := Lib.hid (setsOf_may HTM.out HRM.out)
  have HSA := Lib.hid (setsOf_app HTS.out HRS.out)
  have HSL : Hid ((setsOf T R).length ≤ 4000) := Lib.hid (by
    have h1 := setsOf_len T R
    have h2 := HTL.out
    have h3 : R.length ≤ T.length + M.length := by rw [HR.out]; exact appL_len M T
    have h4 := HK.out
    omega)
  have HSU : Hid (∀ s, s ∈ setsOf T R → (s.2.2 = true ∧ hasK T s.1 = true) ∨ (s.2.2 = false ∧ hasK T s.1 = false) ∨ (s.2.2 = false ∧ hasK T s.1 = true ∧ decide (Lst.valOf T s.1 = s.2.1) = false)) := Lib.hid (fun s hs => by
    obtain ⟨h1, h2⟩ := setsOf_unlike hs
    cases hg : s.2.2 with
    | true => exact .inl ⟨rfl, h1 hg⟩
    | false =>
      cases hh : hasK T s.1 with
      | true => exact .inr (.inr ⟨rfl, rfl, decide_eq_false (h2 hg hh)⟩)
      | false => exact .inr (.inl ⟨rfl, rfl⟩))
  generalize setsOf T R = U at *
  go_wp2_with fail
  (with_reducible refine OS.out.mono ?_)
  rintro e w14 ⟨A14, a14, rfl, l14, hb14⟩
  have Sx := hkeep hb14 S13
  have S14 := Lib.hid (⟨l14, Sx.out.2.1, Sx.out.2.2.2.2.1, Sx.out.2.2.2.2.2.1, Sx.out.2.2.2.2.2.2.1, Sx.out.2.2.2.2.2.2.2.1, Sx.out.2.2.2.2.2.2.2.2.1, trivial⟩ : _ ∧ _ ∧ _ ∧ _ ∧ _ ∧ _ ∧ _ ∧ True)
  obtain ⟨z, hz⟩ : ∃ z, z = U.length := ⟨_, rfl⟩
  have HZ := Lib.hid hz
  have hzb : z ≤ 4000 := by rw [hz]; exact HSL.out
  have z1 : z ≤ a14 := by rw [hz]; exact l14.le
  have z2 := l14.max
  rw [← hz]
  clear l14 hb14 S13 Sx hz OS HSL
  go_wp2_with fail
  (with_reducible refine (Q2.out w14 S14.out.2.2.2.1).mono ?_)
  rintro e w15 ⟨A15, c15, rfl, s15, hb15⟩
  have S15 := hand (hkeep hb15 S14) s15
  clear s15 hb15 S14 Q2
  go_wp2_with fail
  go_loopg [19] z (fun gk i wr => ∃ q : Nat, q ≤ z ∧ gk = z - q ∧ i = .int .i64 (q : Int) ∧ Hid (Below w15.heap.size w15 wr))
  case atStart => exact ⟨0, by omega, rfl, rfl, Below.refl _ _⟩
  case round =>
    obtain ⟨q, hq, rfl, rfl, HB⟩ := hrel
    have Sr := hkeep HB.out S15
    by_cases hlt : q < z
    · have i2 : (q : Int) < (z : Int) := by omega
      have i0 : (0 : Int) ≤ (q : Int) := by omega
      have HQU : Hid (q < U.length) := Lib.hid (by rw [← HZ.out]; exact hlt)
      obtain ⟨bk, off, A1, a1, B1, b1, rfl, hbk, d0, d1, d2, s1, s2⟩ := Sr.out.2.1.set q _ (getD_get zeroSet HQU.out)
      have HC := Lib.hid (HSU.out _ (getD_memS HQU.out))
      have RS := Lib.hid (fun (h : 1 ≤ q) => risesS HSP.out (k := q - 1) (by have := HQU.out; omega))
      obtain ⟨⟨xk, xv, xg⟩, hx⟩ : ∃ y, U.getD q zeroSet = y := ⟨_, rfl⟩
      have HX := Lib.hid hx
      rw [hx] at d0 d1 d2 s1 s2 HC
      dsimp only at d0 d1 d2 s1 s2 HC
      have D0 := Lib.hid d0
      have D1 := Lib.hid d1
      have D2 := Lib.hid d2
      have S1 := Lib.hid s1.1
      have S2' := Lib.hid s2.1
      have HBK := Lib.hid hbk
      have c0 := Sr.out.2.2.2.2.1.cell
      have HD7 : Hid (Below wr.heap.size wr wr.drew) := Lib.hid (below_drewN (Below.refl _ _) 1)
      have GT := Lib.hid (get_any bu _ T A1 a1 xk wr.drew (Sr.out.2.2.2.2.1.keep HD7.out).map (S1.out.below HD7.out))
      have HPT7 := Lib.hid Sr.out.2.2.2.2.1.lt
      generalize hasK T xk = hk at *
      generalize Lst.valOf T xk = yv at *
      clear d1 d2 s1 s2 hbk hx
      go_wp2_with fail
      go_region_held3 (fun w' => w'.cell? ⟨pu, 0, none⟩ = some (.map (some bu)) ∧ w'.cell? ⟨bk, off + q * 3, none⟩ = some (.slice A1 xk.length a1)) (first | exact ⟨g0, g1⟩ | go_keep)
        (first | (go_at_call 25; refine GT.out.mono ?_; rintro e w8 ⟨B8, d8, rfl, s8, hb8, -⟩; have B8' := Lib.hid (below_step HD7.out hb8); have S8 := Lib.hid s8; have g0 : w8.cell? ⟨pu, 0, none⟩ = some (.map (some bu)) := (B8'.out.cell (p := ⟨pu, _, none⟩) HPT7.out).trans c0; have g1 : w8.cell? ⟨bk, off + q * 3, none⟩ = some (.slice A1 xk.length a1) := (B8'.out.cell (p := ⟨bk, _, none⟩) HBK.out).trans d0; clear s8 hb8))
      all_goals
        have e1 := (B8'.out.cell (p := ⟨bk, _, none⟩) HBK.out).trans D1.out
        have P8 := Lib.hid (Help.sameBytes B8 B1 d8 b1 yv xv w8 S8.out (S2'.out.below B8'.out))
        generalize decide (yv = xv) = sm at *
        clear g0 g1 c0 d0 GT
        go_wp2_with fail
        (with_reducible refine P8.out.mono ?_)
        rintro e w9 ⟨q9, rfl, rfl⟩
        have HB9 := Lib.hid (below_drewN B8'.out q9)
        generalize w8.drewN q9 = w9 at *
        clear e1 P8 S8
        rcases Nat.eq_zero_or_pos q with hq0 | hq0
        · subst hq0
          go_wp2_with fail
          go_quiet (fail)
          have HBn := Lib.hid (below_drewN HB9.out nq)
          have HBN := Lib.hid (below_step HB.out HBn.out)
          have e2 := (HBn.out.cell (p := ⟨bk, _, none⟩) HBK.out).trans D2.out
          generalize w9.drewN nq = w10 at *
          obtain (⟨rfl, rfl⟩ | ⟨rfl, rfl⟩ | ⟨rfl, rfl, rfl⟩) := HC.out
          all_goals
            go_wp2_with fail
            go_roundg (z - (0 + 1))
            case measure => omega
            case rel => exact ⟨0 + 1, by omega, rfl, by go_num, HBN⟩
        · obtain ⟨j, rfl⟩ : ∃ j, q = j + 1 := ⟨q - 1, by omega⟩
          have HLS := RS.out (by omega)
          rw [Nat.add_sub_cancel, HX.out] at HLS
          obtain ⟨bk2, off2, A3, a3, B3, b3, e3, hbk3, f0, -, -, s3, -⟩ := Sr.out.2.1.set j _ (getD_get zeroSet (by have := HQU.out; omega))
          cases e3
          have x0 := (HB9.out.cell (p := ⟨bk, _, none⟩) HBK.out).trans f0
          have x1 := (HB9.out.cell (p := ⟨bk, _, none⟩) HBK.out).trans D0.out
          have VL := Lib.hid (fun n => less_any A3 A1 a3 a1 (U.getD j zeroSet).1 xk (w9.drewN n) ((s3.1.below HB9.out).drewN n) ((S1.out.below HB9.out).drewN n))
          rw [HLS] at VL
          have j1 : (((j + 1 : Nat) : Int) == 0) = false := by rw [beq_eq_false_iff_ne]; omega
          have j2 : (((j : Int) + 1) == 0) = false := by rw [beq_eq_false_iff_ne]; omega
          clear f0 s3 HLS
          go_wp2_with fail
          go_quiet ((go_at_call 26; exact quiet_at0 (VL.out _)))
          have HBn := Lib.hid (below_drewN HB9.out nq)
          have HBN := Lib.hid (below_step HB.out HBn.out)
          have e2 := (HBn.out.cell (p := ⟨bk, _, none⟩) HBK.out).trans D2.out
          clear x0 x1
          generalize w9.drewN nq = w10 at *
          obtain (⟨rfl, rfl⟩ | ⟨rfl, rfl⟩ | ⟨rfl, rfl, rfl⟩) := HC.out
          all_goals
            go_wp2_with fail
            go_roundg (z - (j + 1 + 1))
            case measure => omega
            case rel => exact ⟨j + 1 + 1, by omega, rfl, by go_num, HBN⟩
    · obtain rfl : q = z := by omega
      have i2 : ¬ (q : Int) < (q : Int) := by omega
      clear S15 HB
      have T16 := Lib.hid Sr.out.2.2.2.2.1
      have S16 := Lib.hid (⟨Sr.out.1, Sr.out.2.1, Sr.out.2.2.1, Sr.out.2.2.2.1, Sr.out.2.2.2.2.2.1, Sr.out.2.2.2.2.2.2.1, Sr.out.2.2.2.2.2.2.2.1, trivial⟩ : _ ∧ _ ∧ _ ∧ _ ∧ _ ∧ _ ∧ _ ∧ True)
      clear Sr
      have AP := Lib.hid (apply_any pu bu n T A14 a14 U wr T16.out S16.out.2.1 (by omega) (by rw [← HZ.out]; omega))
      rw [← HZ.out] at AP
      go_wp2_with fail
      (with_reducible refine AP.out.mono ?_)
      rintro e w17 (⟨-, rfl, t17, k17⟩ | ⟨hf, -, -⟩)
      rotate_left
      · exact absurd (HSM.out.symm.trans hf) (by decide)
      rw [HSA.out] at t17
      have S17 := hand (mkeep k17 T16.out.map.isMap HBU.out S16) t17
      clear t17 k17 S16 T16 AP
      go_wp2_with fail
      (with_reducible refine (num13_any _ _).mono ?_)
      rintro e wq ⟨rfl, rfl⟩
      have P8 := Lib.hid (Help.sameBytes A6 A15 c6 c15 bT bT w17 S17.out.2.2.2.2.1 S17.out.2.1)
      rw [show decide (bT = bT) = true by simp] at P8
      go_wp2_with fail
      (with_reducible refine P8.out.mono ?_)
      rintro e w18 ⟨q18, rfl, rfl⟩
      have S18 := hkeep (below_drewN (Below.refl w17.heap.size w17) q18) S17
      generalize w17.drewN q18 = w18 at *
      clear P8 S17
      have HB0 := Lib.hid (below_alloc (Below.refl w18.heap.size w18) (.cells #[] 37))
      have O0 := Lib.hid (ownS_empty w18 w18.heap.size (Nat.le_refl _))
      have LL0 := Lib.hid ((S18.out.2.2.2.2.2.2.1.reno (N' := fun k => (Value.slice (some ⟨w18.heap.size, 0, none⟩) 0 0).ownBlock = some k) (fun i hi => .inr (by injection hi with hi; rw [← hi]; exact Nat.le_refl _))).below HB0.out)
      go_wp2_with (first | (at_builtin; refine pushS (B := w18.heap.size) rfl (.tmp 175) (.tmp 176) rfl (.slice A19 n c19) L M A3 a3 rfl (by rw [← HK.out]; rfl) O19.out LM19.out HSZ19.out (by rw [← HN.out, ← HK.out]; omega) ?_; intro A20 c20 w20 o20 k20 n20; have O20 := Lib.hid o20; have HB20 := Lib.hid (below_only HB19.out k20 (fun i hi => O19.out.base_le hi)); clear o20 k20 n20) | (at_builtin; refine pushS (B := w18.heap.size) rfl (.tmp 173) (.tmp 174) rfl (.slice (some ⟨w18.heap.size, 0, none⟩) 0 0) [] L A2 a2 rfl (by rw [← HN.out]; rfl) O0.out LL0.out HB0.out.size (by rw [← HN.out]; simp; omega) ?_; intro A19 c19 w19 o19 k19 n19; rw [List.nil_append, ← HN.out] at o19 n19 ⊢; have O19 := Lib.hid o19; have HB19 := Lib.hid (below_only HB0.out k19 (fun i hi => O0.out.base_le hi)); have LM19 := Lib.hid ((S18.out.2.2.2.2.2.1.reno (N' := fun k => (Value.slice A19 n c19).ownBlock = some k) (fun i hi => .inr (O19.out.base_le hi))).below HB19.out); have HSZ19 := Lib.hid HB19.out.size; clear o19 k19 n19))
      obtain ⟨V, hV⟩ : ∃ V, V = L ++ M := ⟨_, rfl⟩
      have HV := Lib.hid hV
      rw [← List.length_append]
      have hVA : (L ++ M).all mayB = true := by rw [List.all_append, HLA.out, HMA.out]; rfl
      have hVR : appL [] (L ++ M) = R := by rw [appL_app, ← HT.out, ← HR.out]
      have hVL : (L ++ M).length = n + k := by rw [List.length_append, ← HN.out, ← HK.out]
      rw [← hV] at O20 hVA hVR hVL ⊢
      clear hV
      obtain ⟨A20', c20', e20, l20⟩ := O20.out.lst (fun _ _ h => h)
      cases e20
      have S20 := hand (hkeep HB20.out S18) l20
      have HVA := Lib.hid hVA
      have HVL := Lib.hid hVL
      have BV := Lib.hid (built_any A20 c20 V w20 l20 (by rw [hVL]; omega) hVA)
      rw [hVR, hVL] at BV
      rw [hVL]
      have v1 : n + k ≤ c20 := by rw [← hVL]; exact l20.le
      have v2 := l20.max
      obtain ⟨nk, hnk⟩ : ∃ nk, nk = n + k := ⟨_, rfl⟩
      have HNK := Lib.hid hnk
      have hnkb : nk ≤ 2000 := by omega
      rw [← hnk] at BV v1 ⊢
      clear l20 HB20 O20 S18 HB19 O19 LM19 LL0 O0 HB0 HSZ19 hVA hVR hVL hnk
      go_wp2_with fail
      (with_reducible refine BV.out.mono ?_)
      rintro e w21 ⟨pw, bw, rfl, t21, -, -, hb21⟩
      have S21 := hand (hkeep hb21 S20) t21
      clear t21 hb21 S20 BV
      have HUL : Hid (n + U.length ≤ 100000) := Lib.hid (by rw [← HZ.out]; omega)
      have Q4 := Lib.hid (fun w h => tbytes_any pu bu _ R w h HUL.out)
      have Q5 := Lib.hid (fun w h => tbytes_any pw bw _ R w h (show nk ≤ 100000 by omega))
      generalize (putSetsD (R.map setOf)).1 = bR at *
      go_wp2_with fail
      (with_reducible refine (Q4.out w21 S21.out.2.2.1).mono ?_)
      rintro e w22 ⟨A22, c22, rfl, s22, hb22⟩
      have S22 := hand (hkeep hb22 S21) s22
      clear s22 hb22 S21 Q4
      go_wp2_with fail
      (with_reducible refine (Q5.out w22 S22.out.2.1).mono ?_)
      rintro e w23 ⟨A23, c23, rfl, s23, hb23⟩
      have S23 := hand (hkeep hb23 S22) s23
      clear s23 hb23 S22 Q5
      go_wp2_with fail
      go_loopg [29] nk (fun gk i wr => ∃ y : Nat, y ≤ nk ∧ gk = nk - y ∧ i = .int .i64 (y : Int) ∧ Hid (Below w23.heap.size w23 wr))
      case atStart => exact ⟨0, by omega, rfl, rfl, Below.refl _ _⟩
      case round =>
        obtain ⟨y, hy, rfl, rfl, HB⟩ := hrel
        have Sr := hkeep HB.out S23
        by_cases hlt : y < nk
        · have i3 : (y : Int) < (nk : Int) := by omega
          have i0 : (0 : Int) ≤ (y : Int) := by omega
          obtain ⟨bk, off, A1, a1, B1, b1, rfl, hbk, d0, -, -, s1, -⟩ := Sr.out.2.2.2.1.set y _ (getD_get zeroSet (by rw [HVL.out, ← HNK.out]; exact hlt))
          generalize (V.getD y zeroSet).1 = xk at *
          have D0 := Lib.hid d0
          have S1 := Lib.hid s1.1
          have HBK := Lib.hid hbk
          have c0 := Sr.out.2.2.2.2.2.2.2.1.c0
          have HD7 : Hid (Below wr.heap.size wr wr.drew) := Lib.hid (below_drewN (Below.refl _ _) 1)
          have GT := Lib.hid (get_any bo (T.length + M.length) R A1 a1 xk wr.drew (by rw [HR.out]; exact (Sr.out.2.2.2.2.2.2.2.1.keep HD7.out).is_) (S1.out.below HD7.out))
          have GW := Lib.hid (fun w (h : TTab w pw bw nk R) h2 => get_any bw _ R A1 a1 xk w h.map h2)
          have HPT7 := Lib.hid Sr.out.2.2.2.2.2.2.2.1.lt
          generalize hasK R xk = hk at *
          generalize Lst.valOf R xk = xv at *
          clear s1 hbk
          go_wp2_with fail
          go_region_held3 (fun w' => w'.cell? ⟨po, 0, none⟩ = some (.map (some bo)) ∧ w'.cell? ⟨bk, off + y * 3, none⟩ = some (.slice A1 xk.length a1)) (first | exact ⟨g0, g1⟩ | go_keep)
            (first | (go_at_call 25; refine GT.out.mono ?_; rintro e w8 ⟨B8, d8, rfl, s8, hb8, -⟩; have B8' := Lib.hid (below_step HD7.out hb8); have S8 := hand (hkeep B8'.out Sr) s8; have g0 : w8.cell? ⟨po, 0, none⟩ = some (.map (some bo)) := (B8'.out.cell (p := ⟨po, _, none⟩) HPT7.out).trans c0; have g1 : w8.cell? ⟨bk, off + y * 3, none⟩ = some (.slice A1 xk.length a1) := (B8'.out.cell (p := ⟨bk, _, none⟩) HBK.out).trans d0; clear s8 hb8))
          all_goals
            have e1 := S8.out.2.2.2.1.cell
            have d1 := (B8'.out.cell (p := ⟨bk, _, none⟩) HBK.out).trans D0.out
            have HD8 : Hid (Below w8.heap.size w8 w8.drew) := Lib.hid (below_drewN (Below.refl _ _) 1)
            have GW8 := Lib.hid (GW.out w8.drew (S8.out.2.2.2.1.keep HD8.out) ((S1.out.below B8'.out).below HD8.out))
            have HPW8 := Lib.hid S8.out.2.2.2.1.lt
            have HBK8 : Hid (bk < w8.heap.size) := Lib.hid (Nat.lt_of_lt_of_le HBK.out B8'.out.size)
            clear g0 g1 c0 d0 GT GW Sr
            go_wp2_with fail
            go_region_held3 (fun w' => w'.cell? ⟨pw, 0, none⟩ = some (.map (some bw)) ∧ w'.cell? ⟨bk, off + y * 3, none⟩ = some (.slice A1 xk.length a1)) (first | exact ⟨j0, j1⟩ | go_keep)
              (first | (go_at_call 25; refine GW8.out.mono ?_; rintro e w9 ⟨B9, d9, rfl, s9, hb9, -⟩; have B9' := Lib.hid (below_step HD8.out hb9); have S9 := hand (hkeep B9'.out S8) s9; have j0 : w9.cell? ⟨pw, 0, none⟩ = some (.map (some bw)) := (B9'.out.cell (p := ⟨pw, _, none⟩) HPW8.out).trans e1; have j1 : w9.cell? ⟨bk, off + y * 3, none⟩ = some (.slice A1 xk.length a1) := (B9'.out.cell (p := ⟨bk, _, none⟩) HBK8.out).trans d1; clear s9 hb9))
            all_goals
              have P9 := Lib.hid (Help.sameBytes B8 B9 d8 d9 xv xv w9 S9.out.2.1 S9.out.1)
              rw [show decide (xv = xv) = true by simp] at P9
              have HB9 := Lib.hid (below_step HB.out (below_step B8'.out B9'.out))
              have hne : (hk != hk) = false := by simp
              clear j0 j1 e1 d1 GW8 S8 S9
              go_wp2_with fail
              (with_reducible refine P9.out.mono ?_)
              rintro e w10 ⟨q10, rfl, rfl⟩
              have HBN := Lib.hid (below_drewN HB9.out q10)
              generalize w9.drewN q10 = w10 at *
              clear P9
              go_wp2_with fail
              go_roundg (nk - (y + 1))
              case measure => omega
              case rel => exact ⟨y + 1, by omega, rfl, by go_num, HBN⟩
        · obtain rfl : y = nk := by omega
          have i3 : ¬ (y : Int) < (y : Int) := by omega
          clear S23 HB
          have P8 := Lib.hid (Help.sameBytes A22 A23 c22 c23 bR bR wr Sr.out.2.1 Sr.out.1)
          rw [show decide (bR = bR) = true by simp] at P8
          go_wp2_with fail
          (with_reducible refine P8.out.mono ?_)
          rintro e w24 ⟨q24, rfl, rfl⟩
          have BF := Lib.hid (below_drewN Sr.out.2.2.2.2.2.2.2.2.2.2.2.1 q24)
          generalize wr.drewN q24 = w24 at *
          clear P8 Sr
          go_wp2_with fail
          exact bodyPost_ret (v := .bool true) (by simp [results, Try.results5, go_sem]) rfl ⟨rfl, BF.out⟩
end Go.Proofs.Ytnhfeoniiadjfaa.tableOver
