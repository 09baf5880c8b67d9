/- Contracts of the functions that RowsPlace reaches: part 7 of 7. -/
import Derived.Test.YtafdhccdjbfepaaGreatRowsPlaceB6
import Derived.Deep.Cut
import Derived.Deep.CutRange
/- little: are all lists of bytes short? -/
namespace Go.Proofs.YtafdhccdjbfepaaGreat.Lst
open Go.RowKit Go.Proofs.YtafdhccdjbfepaaGreat.K Go.Proofs.YtafdhccdjbfepaaGreat.Help Go.Proofs.YtafdhccdjbfepaaGreat.Pfx Go.Proofs.YtafdhccdjbfepaaGreat.Peer
set_option linter.unusedVariables false
def RowsLe (l : List RowD) (n : Nat) : Prop := ∀ x, x ∈ l → x.1.length ≤ n ∧ x.2.length ≤ n
def RetLt (w : World) (Q : Prop) (e : Ending) (w' : World) : Prop := ∃ r : Bool, e = .returned (.bool r) ∧ (r = true → Q) ∧ Below w.heap.size w w'
theorem max2 (N la M : Nat) (h1 : N ≤ M) (h2 : la ≤ M) : ∃ N' : Nat, (if N < la then (la : Int) else (N : Int)) = (N' : Int) ∧ N ≤ N' ∧ la ≤ N' ∧ N' ≤ M := by
  split
  · exact ⟨la, rfl, by omega, Nat.le_refl _, h2⟩
  · exact ⟨N, rfl, Nat.le_refl _, by omega, h1⟩
theorem max2i (N la M : Nat) (h1 : N ≤ M) (h2 : la ≤ M) : ∃ N' : Nat, max (N : Int) (la : Int) = (N' : Int) ∧ N ≤ N' ∧ la ≤ N' ∧ N' ≤ M := by
  rcases Nat.le_total N la with h | h
  · exact ⟨la, by omega, h, Nat.le_refl _, h2⟩
  · exact ⟨N, by omega, Nat.le_refl _, h, h1⟩
theorem max3 (N la lb M : Nat) (h1 : N ≤ M) (h2 : la ≤ M) (h3 : lb ≤ M) : ∃ N' : Nat, (if (if N < la then (la : Int) else (N : Int)) < (lb : Int) then (lb : Int) else if N < la then (la : Int) else (N : Int)) = (N' : Int) ∧ N ≤ N' ∧ la ≤ N' ∧ lb ≤ N' ∧ N' ≤ M := by
  obtain ⟨N1, e, a1, a2, a3⟩ := max2 N la M h1 h2
  rw [e]
  split
  · exact ⟨lb, rfl, by omega, by omega, Nat.le_refl _, h3⟩
  · exact ⟨N1, rfl, a1, a2, by omega, a3⟩
theorem all_step {α : Type} {l : List α} {k : Nat} (hk : k < l.length) {P : α → Prop} (h1 : ∀ x, x ∈ l.take k → P x) (h2 : P l[k]) : ∀ x, x ∈ l.take (k + 1) → P x := fun x hx => by
  rw [List.take_succ_eq_append_getElem hk] at hx
  rcases List.mem_append.1 hx with h | h
  · exact h1 x h
  · rw [List.mem_singleton] at h; subst h; exact h2
set_option maxRecDepth 100000 in
set_option maxHeartbeats 4000000 in
theorem little_any (A A' B B' C : Option Addr) (a a' b b' c : Nat) (ps ps' : List PeerD) (ls ls' : List LaneD) (rs : List RowD) (w : World) (hp : Lst PeerE w (fun _ => False) A a ps) (hp' : Lst PeerE w (fun _ => False) A' a' ps') (hq : Lst LaneE w (fun _ => False) B b ls) (hq' : Lst LaneE w (fun _ => False) B' b' ls') (hr : Lst RowE w (fun _ => False) C c rs) :
    Calls Tryz.prog 6 #[caseV A A' B B' a a' b b' ps.length ps'.length ls.length ls'.length, .slice C rs.length c] w (RetLt w (RowsLe rs 5000 ∧ (∀ x, x ∈ ps → x.key.length ≤ 5000) ∧ (∀ x, x ∈ ps' → x.key.length ≤ 5000) ∧ (∀ x, x ∈ ls → x.key.length ≤ 5000) ∧ (∀ x, x ∈ ls' → x.key.length ≤ 5000))) := by
  have r1 := hr.le
  have r2 := hr.max
  have p1 := Nat.le_trans hp.le hp.max
  have p2 := Nat.le_trans hp'.le hp'.max
  have p3 := Nat.le_trans hq.le hq.max
  have p4 := Nat.le_trans hq'.le hq'.max
  have hb0 := below_alloc (Below.refl w.heap.size w) (.cells #[.slice A ps.length a, .slice A' ps'.length a', .slice B ls.length b, .slice B' ls'.length b'] 25)
  have S0 := hand (hand (hand (hand (hand (hand (hstart hb0) (hr.below hb0)) (hq'.below hb0)) (hq.below hb0)) (hp'.below hb0)) (hp.below hb0)) (blk_new w (.cells #[.slice A ps.length a, .slice A' ps'.length a', .slice B ls.length b, .slice B' ls'.length b'] 25))
  clear hp hp' hq hq' hr hb0
  unfold caseV
  generalize hn0 : rs.length = n0 at *
  have HN0 := Lib.hid hn0
  clear hn0
  go_enter Tryz.func6, Tryz.ntmps6
  go_wp2_with fail
  obtain ⟨b0, hb0⟩ : ∃ b0, b0 = w.heap.size := ⟨_, rfl⟩
  generalize w.alloc (.cells #[.slice A ps.length a, .slice A' ps'.length a', .slice B ls.length b, .slice B' ls'.length b'] 25) = w0 at *
  go_loopg [5, 6] n0 (fun gk v i wr => ∃ (k N : Nat), k ≤ n0 ∧ gk = n0 - k ∧ v = .int .i64 (N : Int) ∧ i = .int .i64 (k : Int) ∧ N ≤ 140737488355328 ∧ Hid (RowsLe (rs.take k) N) ∧ Hid (∃ q, wr = w0.drewN q))
  case atStart => exact ⟨0, 0, by omega, rfl, rfl, rfl, by omega, Lib.hid (fun x h => by simp at h), ⟨0, rfl⟩⟩
  case round =>
    obtain ⟨k, N, hk, rfl, rfl, rfl, hN, HLE, HQ⟩ := hrel
    obtain ⟨q, rfl⟩ := HQ.out
    have Sr := hkeep (below_drewN (Below.refl w0.heap.size w0) q) S0
    by_cases hlt : k < n0
    · have i1 : (k : Int) < (n0 : Int) := by omega
      have i0 : (0 : Int) ≤ (k : Int) := by omega
      have hkl : k < rs.length := by rw [HN0.out]; exact hlt
      obtain ⟨bk, off, A1, a1, B1, b1, rfl, hbk, d0, d1, s1, s2⟩ := Sr.out.2.2.2.2.2.1.row k rs[k] (List.getElem?_eq_getElem hkl)
      have m1 := s1.1.max
      have m2 := s2.1.max
      have HW1 := Lib.hid (show ∃ q', w0.drewN q = w0.drewN q' from ⟨q, rfl⟩)
      generalize w0.drewN q = w1 at *
      have MX := Lib.hid (max3 N rs[k].1.length rs[k].2.length 140737488355328 hN m1 m2)
      have AS := Lib.hid (fun (N' : Nat) (h1 : N ≤ N') (h2 : rs[k].1.length ≤ N') (h3 : rs[k].2.length ≤ N') => (all_step hkl (P := fun x : RowD => x.1.length ≤ N' ∧ x.2.length ≤ N') (fun x hx => ⟨Nat.le_trans (HLE.out x hx).1 h1, Nat.le_trans (HLE.out x hx).2 h1⟩) ⟨h2, h3⟩ : RowsLe (rs.take (k + 1)) N'))
      clear s1 s2 hbk m1 m2
      generalize rs[k].1.length = la at *
      generalize rs[k].2.length = lb at *
      go_wp2_with fail
      go_region_held3 (fun w' => w'.cell? ⟨bk, off + k * 2, none⟩ = some (.slice A1 la a1) ∧ w'.cell? ⟨bk, off + k * 2 + 1, none⟩ = some (.slice B1 lb b1)) (first | exact ⟨d0, d1⟩ | go_keep) (fail)
      all_goals
        obtain ⟨N', e', n1, n2, n3, n4⟩ := MX.out
        have AS1 := Lib.hid (AS.out N' n1 n2 n3)
        have HW2 : Hid (∃ q', w1.drew = w0.drewN q') := Lib.hid (by obtain ⟨q', h⟩ := HW1.out; exact ⟨q' + 1, by rw [h]; rfl⟩)
        rw [e']
        clear n1 n2 n3 e' MX AS HLE
        go_wp2_with fail
        go_roundg (n0 - (k + 1))
        case measure => omega
        case rel => exact ⟨k + 1, N', by omega, rfl, rfl, by go_num, n4, AS1, HW2⟩
    · obtain rfl : k = n0 := by omega
      have i1 : ¬ (k : Int) < (k : Int) := by omega
      have G1 : Hid (RowsLe rs N) := Lib.hid (by have := HLE.out; rwa [← HN0.out, List.take_length] at this)
      clear HLE HQ Sr
      have Q1 : Hid (∃ q', w0.drewN q = w0.drewN q') := ⟨q, rfl⟩
      have HN1 := Lib.hid hN
      go_wp2_with fail
      go_loopg [5, 7] (ps.length) (fun gk v i wr => ∃ (k N' : Nat), k ≤ ps.length ∧ gk = ps.length - k ∧ v = .int .i64 (N' : Int) ∧ i = .int .i64 (k : Int) ∧ Hid (N' ≤ 140737488355328) ∧ Hid (N ≤ N') ∧ Hid (∀ x, x ∈ ps.take k → x.key.length ≤ N') ∧ Hid (∃ q, wr = w0.drewN q))
      case atStart => exact ⟨0, N, by omega, rfl, rfl, rfl, HN1, Nat.le_refl _, Lib.hid (fun x h => by simp at h), Q1⟩
      case round =>
        obtain ⟨z0, M0, hz0, rfl, rfl, rfl, HM0, HP0, HL0, HQ⟩ := hrel
        obtain ⟨qq, rfl⟩ := HQ.out
        have Sr := hkeep (below_drewN (Below.refl w0.heap.size w0) qq) S0
        have HW1 := Lib.hid (show ∃ q', w0.drewN qq = w0.drewN q' from ⟨qq, rfl⟩)
        generalize w0.drewN qq = w1 at *
        have x0 := (blk_cell Sr.out.1 0).trans (b := some (Value.slice A ps.length a)) rfl
        by_cases hlt : z0 < ps.length
        · have i1 : (z0 : Int) < (ps.length : Int) := by omega
          have i0 : (0 : Int) ≤ (z0 : Int) := by omega
          obtain ⟨bk, off, A1, a1, B1, b1, e1, hbk, -, d1, -, s1, -⟩ := Sr.out.2.1.peer z0 ps[z0] (List.getElem?_eq_getElem hlt)
          have d1 : w1.cell? ⟨bk, off + z0 * 3 + 1, none⟩ = some (.slice A1 ps[z0].key.length a1) := d1
          rw [e1] at x0
          obtain ⟨N', e', n1, n2, n3⟩ := max2i M0 ps[z0].key.length 140737488355328 HM0.out s1.1.max
          have AS1 := Lib.hid (all_step hlt (P := fun x => x.key.length ≤ N') (fun x hx => Nat.le_trans (HL0.out x hx) n1) n2)
          have NN := Lib.hid (Nat.le_trans HP0.out n1)
          have N3 := Lib.hid n3
          generalize ps[z0].key.length = la at *
          clear s1 hbk n1 n2 n3 Sr
          go_wp2_with fail
          go_roundg (ps.length - (z0 + 1))
          case measure => omega
          case rel => exact ⟨z0 + 1, N', by omega, rfl, rfl, by go_num, N3, NN, AS1, HW1⟩
        · obtain hz : z0 = ps.length := by omega
          have i1 : ¬ (z0 : Int) < (ps.length : Int) := by omega
          have G2 : Hid (∀ x, x ∈ ps → x.key.length ≤ M0) := Lib.hid (by have := HL0.out; rwa [hz, List.take_length] at this)
          have Q2 := HW1
          have HN2 := HM0
          clear HL0 HQ Sr hz
          go_wp2_with fail
          go_loopg [5, 8] (ps'.length) (fun gk v i wr => ∃ (k N' : Nat), k ≤ ps'.length ∧ gk = ps'.length - k ∧ v = .int .i64 (N' : Int) ∧ i = .int .i64 (k : Int) ∧ Hid (N' ≤ 140737488355328) ∧ Hid (M0 ≤ N') ∧ Hid (∀ x, x ∈ ps'.take k → x.key.length ≤ N') ∧ Hid (∃ q, wr = w0.drewN q))
          case atStart => exact ⟨0, M0, by omega, rfl, rfl, rfl, HN2, Nat.le_refl _, Lib.hid (fun x h => by simp at h), Q2⟩
          case round =>
            obtain ⟨z1, M1, hz1, rfl, rfl, rfl, HM1, HP1, HL1, HQ⟩ := hrel
            obtain ⟨qq, rfl⟩ := HQ.out
            have Sr := hkeep (below_drewN (Below.refl w0.heap.size w0) qq) S0
            have HW1 := Lib.hid (show ∃ q', w0.drewN qq = w0.drewN q' from ⟨qq, rfl⟩)
            generalize w0.drewN qq = w1 at *
            have x0 := (blk_cell Sr.out.1 1).trans (b := some (Value.slice A' ps'.length a')) rfl
            by_cases hlt : z1 < ps'.length
            · have i1 : (z1 : Int) < (ps'.length : Int) := by omega
              have i0 : (0 : Int) ≤ (z1 : Int) := by omega
              obtain ⟨bk, off, A1, a1, B1, b1, e1, hbk, -, d1, -, s1, -⟩ := Sr.out.2.2.1.peer z1 ps'[z1] (List.getElem?_eq_getElem hlt)
              have d1 : w1.cell? ⟨bk, off + z1 * 3 + 1, none⟩ = some (.slice A1 ps'[z1].key.length a1) := d1
              rw [e1] at x0
              obtain ⟨N', e', n1, n2, n3⟩ := max2i M1 ps'[z1].key.length 140737488355328 HM1.out s1.1.max
              have AS1 := Lib.hid (all_step hlt (P := fun x => x.key.length ≤ N') (fun x hx => Nat.le_trans (HL1.out x hx) n1) n2)
              have NN := Lib.hid (Nat.le_trans HP1.out n1)
              have N3 := Lib.hid n3
              generalize ps'[z1].key.length = la at *
              clear s1 hbk n1 n2 n3 Sr
              go_wp2_with fail
              go_roundg (ps'.length - (z1 + 1))
              case measure => omega
              case rel => exact ⟨z1 + 1, N', by omega, rfl, rfl, by go_num, N3, NN, AS1, HW1⟩
            · obtain hz : z1 = ps'.length := by omega
              have i1 : ¬ (z1 : Int) < (ps'.length : Int) := by omega
              have G3 : Hid (∀ x, x ∈ ps' → x.key.length ≤ M1) := Lib.hid (by have := HL1.out; rwa [hz, List.take_length] at this)
              have Q3 := HW1
              have HN3 := HM1
              clear HL1 HQ Sr hz
              go_wp2_with fail
              go_loopg [5, 9] (ls.length) (fun gk v i wr => ∃ (k N' : Nat), k ≤ ls.length ∧ gk = ls.length - k ∧ v = .int .i64 (N' : Int) ∧ i = .int .i64 (k : Int) ∧ Hid (N' ≤ 140737488355328) ∧ Hid (M1 ≤ N') ∧ Hid (∀ x, x ∈ ls.take k → x.key.length ≤ N') ∧ Hid (∃ q, wr = w0.drewN q))
              case atStart => exact ⟨0, M1, by omega, rfl, rfl, rfl, HN3, Nat.le_refl _, Lib.hid (fun x h => by simp at h), Q3⟩
              case round =>
                obtain ⟨z2, M2, hz2, rfl, rfl, rfl, HM2, HP2, HL2, HQ⟩ := hrel
                obtain ⟨qq, rfl⟩ := HQ.out
                have Sr := hkeep (below_drewN (Below.refl w0.heap.size w0) qq) S0
                have HW1 := Lib.hid (show ∃ q', w0.drewN qq = w0.drewN q' from ⟨qq, rfl⟩)
                generalize w0.drewN qq = w1 at *
                have x0 := (blk_cell Sr.out.1 2).trans (b := some (Value.slice B ls.length b)) rfl
                by_cases hlt : z2 < ls.length
                · have i1 : (z2 : Int) < (ls.length : Int) := by omega
                  have i0 : (0 : Int) ≤ (z2 : Int) := by omega
                  obtain ⟨bk, off, A1, a1, e1, hbk, d1, -, -, -, -, -, -, -, s1, -⟩ := Sr.out.2.2.2.1.lane z2 ls[z2] (List.getElem?_eq_getElem hlt)
                  rw [e1] at x0
                  obtain ⟨N', e', n1, n2, n3⟩ := max2i M2 ls[z2].key.length 140737488355328 HM2.out s1.1.max
                  have AS1 := Lib.hid (all_step hlt (P := fun x => x.key.length ≤ N') (fun x hx => Nat.le_trans (HL2.out x hx) n1) n2)
                  have NN := Lib.hid (Nat.le_trans HP2.out n1)
                  have N3 := Lib.hid n3
                  generalize ls[z2].key.length = la at *
                  clear s1 hbk n1 n2 n3 Sr
                  go_wp2_with fail
                  go_roundg (ls.length - (z2 + 1))
                  case measure => omega
                  case rel => exact ⟨z2 + 1, N', by omega, rfl, rfl, by go_num, N3, NN, AS1, HW1⟩
                · obtain hz : z2 = ls.length := by omega
                  have i1 : ¬ (z2 : Int) < (ls.length : Int) := by omega
                  have G4 : Hid (∀ x, x ∈ ls → x.key.length ≤ M2) := Lib.hid (by have := HL2.out; rwa [hz, List.take_length] at this)
                  have Q4 := HW1
                  have HN4 := HM2
                  clear HL2 HQ Sr hz
                  go_wp2_with fail
                  go_loopg [5, 10] (ls'.length) (fun gk v i wr => ∃ (k N' : Nat), k ≤ ls'.length ∧ gk = ls'.length - k ∧ v = .int .i64 (N' : Int) ∧ i = .int .i64 (k : Int) ∧ Hid (N' ≤ 140737488355328) ∧ Hid (M2 ≤ N') ∧ Hid (∀ x, x ∈ ls'.take k → x.key.length ≤ N') ∧ Hid (∃ q, wr = w0.drewN q))
                  case atStart => exact ⟨0, M2, by omega, rfl, rfl, rfl, HN4, Nat.le_refl _, Lib.hid (fun x h => by simp at h), Q4⟩
                  case round =>
                    obtain ⟨z3, M3, hz3, rfl, rfl, rfl, HM3, HP3, HL3, HQ⟩ := hrel
                    obtain ⟨qq, rfl⟩ := HQ.out
                    have Sr := hkeep (below_drewN (Below.refl w0.heap.size w0) qq) S0
                    have HW1 := Lib.hid (show ∃ q', w0.drewN qq = w0.drewN q' from ⟨qq, rfl⟩)
                    generalize w0.drewN qq = w1 at *
                    have x0 := (blk_cell Sr.out.1 3).trans (b := some (Value.slice B' ls'.length b')) rfl
                    by_cases hlt : z3 < ls'.length
                    · have i1 : (z3 : Int) < (ls'.length : Int) := by omega
                      have i0 : (0 : Int) ≤ (z3 : Int) := by omega
                      obtain ⟨bk, off, A1, a1, e1, hbk, d1, -, -, -, -, -, -, -, s1, -⟩ := Sr.out.2.2.2.2.1.lane z3 ls'[z3] (List.getElem?_eq_getElem hlt)
                      rw [e1] at x0
                      obtain ⟨N', e', n1, n2, n3⟩ := max2i M3 ls'[z3].key.length 140737488355328 HM3.out s1.1.max
                      have AS1 := Lib.hid (all_step hlt (P := fun x => x.key.length ≤ N') (fun x hx => Nat.le_trans (HL3.out x hx) n1) n2)
                      have NN := Lib.hid (Nat.le_trans HP3.out n1)
                      have N3 := Lib.hid n3
                      generalize ls'[z3].key.length = la at *
                      clear s1 hbk n1 n2 n3 Sr
                      go_wp2_with fail
                      go_roundg (ls'.length - (z3 + 1))
                      case measure => omega
                      case rel => exact ⟨z3 + 1, N', by omega, rfl, rfl, by go_num, N3, NN, AS1, HW1⟩
                    · obtain hz : z3 = ls'.length := by omega
                      have i1 : ¬ (z3 : Int) < (ls'.length : Int) := by omega
                      have G5 : Hid (∀ x, x ∈ ls' → x.key.length ≤ M3) := Lib.hid (by have := HL3.out; rwa [hz, List.take_length] at this)
                      have Q5 := HW1
                      have HN5 := HM3
                      clear HL3 HQ Sr hz
                      have HF : Hid ((decide ((M3 : Int) ≤ 5000)) = true → RowsLe rs 5000 ∧ (∀ x, x ∈ ps → x.key.length ≤ 5000) ∧ (∀ x, x ∈ ps' → x.key.length ≤ 5000) ∧ (∀ x, x ∈ ls → x.key.length ≤ 5000) ∧ (∀ x, x ∈ ls' → x.key.length ≤ 5000)) := Lib.hid (fun h => by
                        have h5 := of_decide_eq_true h
                        have a0 := HP0.out
                        have a1 := HP1.out
                        have a2 := HP2.out
                        have a3 := HP3.out
                        refine ⟨fun x hx => ?_, fun x hx => ?_, fun x hx => ?_, fun x hx => ?_, fun x hx => ?_⟩
                        · have := G1.out x hx; omega
                        · have := G2.out x hx; omega
                        · have := G3.out x hx; omega
                        · have := G4.out x hx; omega
                        · have := G5.out x hx; omega)
                      have BF : Hid (Below w.heap.size w w1) := Lib.hid (by obtain ⟨q', h⟩ := Q5.out; rw [h]; exact below_drewN S0.out.2.2.2.2.2.2.1 q')
                      go_wp2_with fail
                      go_ret
                      exact ⟨_, rfl, HF.out, BF.out⟩
end Go.Proofs.YtafdhccdjbfepaaGreat.Lst
/- Lists that keep away from some blocks, where bytes alone have changed. -/
namespace Go.Proofs.YtafdhccdjbfepaaGreat.Lst
open Go.RowKit Go.Proofs.YtafdhccdjbfepaaGreat.K Go.Proofs.YtafdhccdjbfepaaGreat.Help Go.Proofs.YtafdhccdjbfepaaGreat.Pfx Go.Proofs.YtafdhccdjbfepaaGreat.Peer
set_option linter.unusedVariables false
section
variable {w w' : World} {A : Option Addr} {c : Nat} {N : Nat → Prop}
theorem bsN_uc {l : List UInt8} (h : BsN w N A c l) (u : UC w w') : ∃ l', l'.length = l.length ∧ BsN w' N A c l' := by
  obtain ⟨l', e, t⟩ := bs_uc h.1 u
  exact ⟨l', e, t, fun hl ad ea => h.2 (fun e0 => hl (List.eq_nil_of_length_eq_zero (by rw [e, e0]; rfl))) ad ea⟩
theorem lstP_ucN {l : List PeerD} (h : Lst PeerE w N A c l) (u : UC w w') {m : Nat} (hm : ∀ x, x ∈ l → x.ps.length ≤ m) : ∃ l', l'.length = l.length ∧ (∀ x, x ∈ l' → x.ps.length ≤ m) ∧ Lst PeerE w' N A c l' := by
  obtain ⟨l', h1, h2, h3⟩ := Lst.of_each (w := w') (E := PeerE) (N := N) (A := A) h.le h.max (fun _ x => x.ps.length ≤ m) (fun i hi => by
    obtain ⟨bk, off, raw, e, hlt, hn, hc, A1, a1, B1, b1, er, s1, s2⟩ := h.at_ i l[i] (List.getElem?_eq_getElem hi)
    subst er
    obtain ⟨k', e1, t1⟩ := bsN_uc s1 u
    have c0 := hc 0 (by decide)
    have c1 := hc 1 (by decide)
    have c2 := hc 2 (by decide)
    refine ⟨⟨l[i].link, k', l[i].ps⟩, bk, off, [.int .i64 l[i].link, .slice A1 l[i].key.length a1, .slice B1 l[i].ps.length b1], e, Nat.lt_of_lt_of_le hlt u.size, hn, fun j hj => ?_, ⟨A1, a1, B1, b1, by rw [e1], t1, ps_uc s2.1 u, s2.2⟩, hm l[i] (List.getElem_mem hi)⟩
    have hj2 : j < 3 := hj
    match j, hj2 with
    | 0, _ => exact u.keep c0 notU8_i64
    | 1, _ => exact u.keep c1 notU8_slice
    | 2, _ => exact u.keep c2 notU8_slice)
  exact ⟨l', h1, fun x hx => by
    obtain ⟨i, hi, rfl⟩ := List.mem_iff_getElem.1 hx
    exact h3 i _ (List.getElem?_eq_getElem hi), h2⟩
theorem lstL_ucN {l : List LaneD} (h : Lst LaneE w N A c l) (u : UC w w') : ∃ l', l'.length = l.length ∧ Lst LaneE w' N A c l' := by
  obtain ⟨l', h1, h2, _⟩ := Lst.of_each (w := w') (E := LaneE) (N := N) (A := A) h.le h.max (fun _ _ => True) (fun i hi => by
    obtain ⟨bk, off, raw, e, hlt, hn, hc, A1, a1, er, s1, lb⟩ := h.at_ i l[i] (List.getElem?_eq_getElem hi)
    subst er
    obtain ⟨k', e1, t1⟩ := bsN_uc s1 u
    have hcc : ∀ j, j < 8 → w.cell? ⟨bk, off + i * 8 + j, none⟩ = [Value.slice A1 l[i].key.length a1, .int .i64 l[i].side, .int .i64 l[i].cur, .int .i64 l[i].next, .int .u64 (l[i].sc : Int), .int .u64 (l[i].ceil : Int), .int .i64 l[i].sec, .int .i64 l[i].nano][j]? := hc
    refine ⟨⟨k', l[i].side, l[i].cur, l[i].next, l[i].sc, l[i].ceil, l[i].sec, l[i].nano⟩, bk, off, [.slice A1 l[i].key.length a1, .int .i64 l[i].side, .int .i64 l[i].cur, .int .i64 l[i].next, .int .u64 (l[i].sc : Int), .int .u64 (l[i].ceil : Int), .int .i64 l[i].sec, .int .i64 l[i].nano], e, Nat.lt_of_lt_of_le hlt u.size, hn, fun j hj => ?_, ⟨A1, a1, by rw [e1], t1, ⟨lb.sc, lb.ceil, lb.sec⟩⟩, trivial⟩
    have hj2 : j < 8 := hj
    match j, hj2 with
    | 0, h => exact u.keep (hcc 0 h) notU8_slice
    | 1, h => exact u.keep (hcc 1 h) notU8_i64
    | 2, h => exact u.keep (hcc 2 h) notU8_i64
    | 3, h => exact u.keep (hcc 3 h) notU8_i64
    | 4, h => exact u.keep (hcc 4 h) notU8_u64
    | 5, h => exact u.keep (hcc 5 h) notU8_u64
    | 6, h => exact u.keep (hcc 6 h) notU8_i64
    | 7, h => exact u.keep (hcc 7 h) notU8_i64)
  exact ⟨l', h1, h2⟩
end
/-- lanes whose keys and rows are new keep away from all that is older -/
theorem lstL_new {w : World} {M : Option Addr} {c lo hi : Nat} {l : List LaneD} {it : List KIt} (h : Lst LaneE w (fun _ => False) M c l) (hk : KsAt w M 8 0 it) (hl : it.length = l.length) (hr : Rise lo hi it) (hb : RowB w lo 43 M) {N : Nat → Prop} (hN : ∀ i, N i → i < lo) : Lst LaneE w N M c l :=
  ⟨h.le, h.max, fun i x hx => by
    obtain ⟨bk, off, raw, e, hlt, _, hc, A1, a1, er, s1, lb⟩ := h.at_ i x hx
    have hi2 : i < it.length := by rw [hl]; exact (List.getElem?_eq_some_iff.1 hx).1
    obtain ⟨g, n, c', eg⟩ : ∃ g n c', it[i] = (g, n, c') := ⟨_, _, _, rfl⟩
    obtain ⟨⟨bk', off', e', _, hc'⟩, _⟩ := hk.at_ i g n c' (by rw [List.getElem?_eq_getElem hi2, eg])
    rw [e] at e'
    cases e'
    have h0 := hc 0 (by decide)
    rw [er] at h0
    have h1 : w.cell? ⟨bk, off + i * 8 + 0, none⟩ = some (.slice A1 x.key.length a1) := h0
    rw [hc'] at h1
    injection h1 with h1
    injection h1 with h1 _ _
    have hg := (hr.2 (g, n, c') (by rw [← eg]; exact List.getElem_mem hi2)).1
    refine ⟨bk, off, raw, e, hlt, fun hn => by have := (hb bk off e).1; have := hN bk hn; omega, hc, A1, a1, er, ⟨s1.1, fun _ ad ea hn => ?_⟩, lb⟩
    rw [← h1] at ea
    cases ea
    have := hN _ hn
    dsimp only at hg this
    omega⟩
end Go.Proofs.YtafdhccdjbfepaaGreat.Lst
/- The state of RowsPlace: the case laid down in the call's own memory. -/
namespace Go.Proofs.YtafdhccdjbfepaaGreat.Lst
open Go.RowKit Go.Proofs.YtafdhccdjbfepaaGreat.K Go.Proofs.YtafdhccdjbfepaaGreat.Help Go.Proofs.YtafdhccdjbfepaaGreat.Pfx Go.Proofs.YtafdhccdjbfepaaGreat.Peer
set_option linter.unusedVariables false
/-- the block of A -/
def AvA (A : Option Addr) (i : Nat) : Prop := ∃ o, A = some ⟨i, o, none⟩
structure Mine (w : World) (bx lo : Nat) (A1 A2 A3 A4 : Option Addr) (a1 a2 a3 a4 n1 n2 n3 n4 : Nat) (it1 it3 : List KIt) : Prop where
  box : w.heap[bx]? = some (.cells #[.slice A1 n1 a1, .slice A2 n2 a2, .slice A3 n3 a3, .slice A4 n4 a4] 25 (0, 0))
  p1 : ∃ l, l.length = n1 ∧ (∀ x, x ∈ l → x.ps.length ≤ 60) ∧ Lst PeerE w (AvA A3) A1 a1 l
  p2 : ∃ l, l.length = n2 ∧ (∀ x, x ∈ l → x.ps.length ≤ 60) ∧ Lst PeerE w (AvA A3) A2 a2 l
  q3 : ∃ l, l.length = n3 ∧ Lst LaneE w (fun _ => False) A3 a3 l
  q4 : ∃ l, l.length = n4 ∧ Lst LaneE w (AvA A3) A4 a4 l
  k1 : KsAt w A1 3 1 it1
  l1 : it1.length = n1
  k3 : KsAt w A3 8 0 it3
  l3 : it3.length = n3
  r3 : RowB w lo 43 A3
  dis : ∀ x, x ∈ it1 ++ it3 → ∀ y, y ∈ it1 ++ it3 → x.1 = y.1 → x = y
  new : ∀ x, x ∈ it1 ++ it3 → lo ≤ x.1
section
variable {w w' : World} {bx lo : Nat} {A1 A2 A3 A4 : Option Addr} {a1 a2 a3 a4 n1 n2 n3 n4 : Nat} {it1 it3 : List KIt}
theorem Mine.keep (h : Mine w bx lo A1 A2 A3 A4 a1 a2 a3 a4 n1 n2 n3 n4 it1 it3) (hb : Below w.heap.size w w') : Mine w' bx lo A1 A2 A3 A4 a1 a2 a3 a4 n1 n2 n3 n4 it1 it3 := by
  obtain ⟨l1, e1, m1, t1⟩ := h.p1
  obtain ⟨l2, e2, m2, t2⟩ := h.p2
  obtain ⟨l3, e3, t3⟩ := h.q3
  obtain ⟨l4, e4, t4⟩ := h.q4
  exact ⟨(hb.block _ (blk_lt h.box)).trans h.box, ⟨l1, e1, m1, t1.below hb⟩, ⟨l2, e2, m2, t2.below hb⟩, ⟨l3, e3, t3.below hb⟩, ⟨l4, e4, t4.below hb⟩, h.k1.keep hb, h.l1, h.k3.keep hb, h.l3, h.r3.keep hb, h.dis, h.new⟩
theorem Mine.turn (h : Mine w bx lo A1 A2 A3 A4 a1 a2 a3 a4 n1 n2 n3 n4 it1 it3) {x0 : KIt} (hx : x0 ∈ it1 ++ it3) (u : UC w w') (k : Only w w' (fun i => i = x0.1)) (m0 : Mk w x0.1 x0.2.1) (m : Mk w' x0.1 x0.2.1) : Mine w' bx lo A1 A2 A3 A4 a1 a2 a3 a4 n1 n2 n3 n4 it1 it3 := by
  obtain ⟨l1, e1, m1, t1⟩ := h.p1
  obtain ⟨l2, e2, m2, t2⟩ := h.p2
  obtain ⟨l3, e3, t3⟩ := h.q3
  obtain ⟨l4, e4, t4⟩ := h.q4
  obtain ⟨l1', f1, g1, s1⟩ := lstP_ucN t1 u m1
  obtain ⟨l2', f2, g2, s2⟩ := lstP_ucN t2 u m2
  obtain ⟨l3', f3, s3⟩ := lstL_ucN t3 u
  obtain ⟨l4', f4, s4⟩ := lstL_ucN t4 u
  refine ⟨k.blk h.box (m0.ne h.box (by decide)), ⟨l1', f1.trans e1, g1, s1⟩, ⟨l2', f2.trans e2, g2, s2⟩, ⟨l3', f3.trans e3, s3⟩, ⟨l4', f4.trans e4, s4⟩, h.k1.turn u k m (fun x hx1 e => ?_), h.l1, h.k3.turn u k m (fun x hx1 e => ?_), h.l3, fun bk off e => ?_, h.dis, h.new⟩
  · rw [h.dis x (List.mem_append_left _ hx1) x0 hx e]
  · rw [h.dis x (List.mem_append_right _ hx1) x0 hx e]
  · obtain ⟨b1, cs, hcs⟩ := h.r3 bk off e
    exact ⟨b1, cs, k.blk hcs (m0.ne hcs (by decide))⟩
theorem Mine.cur (h : Mine w bx lo A1 A2 A3 A4 a1 a2 a3 a4 n1 n2 n3 n4 it1 it3) {b o i : Nat} (eA : A3 = some ⟨b, o, none⟩) (hi : i < n3) (z : Int) : Mine (w.setCell ⟨b, o + i * 8 + 2, none⟩ (.int .i64 z)) bx lo A1 A2 A3 A4 a1 a2 a3 a4 n1 n2 n3 n4 it1 it3 := by
  subst eA
  obtain ⟨l1, e1, m1, t1⟩ := h.p1
  obtain ⟨l2, e2, m2, t2⟩ := h.p2
  obtain ⟨l3, e3, t3⟩ := h.q3
  obtain ⟨l4, e4, t4⟩ := h.q4
  obtain ⟨hlo, cs, hcs⟩ := h.r3 b o rfl
  have hi3 : i < l3.length := by omega
  obtain ⟨b', o', A5, a5, e5, _, _, _, x2, _⟩ := t3.lane i l3[i] (List.getElem?_eq_getElem hi3)
  cases e5
  obtain ⟨l3', f3, s3⟩ := lstL_cur t3 hi3 z
  have k : Only w (w.setCell ⟨b, o + i * 8 + 2, none⟩ (.int .i64 z)) (fun i => i = b) := (Only.refl w (fun i => i = b)).setCell (p := ⟨b, _, none⟩) (.inl rfl) _
  have hN : ∀ j, j < w.heap.size → (fun i => i = b) j → AvA (some ⟨b, o, none⟩) j := fun j _ e => ⟨o, by rw [show j = b from e]⟩
  exact ⟨blk_far h.box (blk_ne h.box hcs (by decide)) _, ⟨l1, e1, m1, t1.only k hN⟩, ⟨l2, e2, m2, t2.only k hN⟩, ⟨l3', f3.trans e3, s3⟩, ⟨l4, e4, t4.only k hN⟩, h.k1.set hcs (by decide) x2 (fun _ _ _ e => by cases e), h.l1, h.k3.set hcs (by decide) x2 (fun _ _ _ e => by cases e), h.l3, h.r3.set _, h.dis, h.new⟩
/-- the four slices of the box -/
theorem Mine.c0 (h : Mine w bx lo A1 A2 A3 A4 a1 a2 a3 a4 n1 n2 n3 n4 it1 it3) : w.cell? ⟨bx, 0, none⟩ = some (.slice A1 n1 a1) := (blk_cell h.box 0).trans rfl
theorem Mine.c1 (h : Mine w bx lo A1 A2 A3 A4 a1 a2 a3 a4 n1 n2 n3 n4 it1 it3) : w.cell? ⟨bx, 1, none⟩ = some (.slice A2 n2 a2) := (blk_cell h.box 1).trans rfl
theorem Mine.c2 (h : Mine w bx lo A1 A2 A3 A4 a1 a2 a3 a4 n1 n2 n3 n4 it1 it3) : w.cell? ⟨bx, 2, none⟩ = some (.slice A3 n3 a3) := (blk_cell h.box 2).trans rfl
theorem Mine.c3 (h : Mine w bx lo A1 A2 A3 A4 a1 a2 a3 a4 n1 n2 n3 n4 it1 it3) : w.cell? ⟨bx, 3, none⟩ = some (.slice A4 n4 a4) := (blk_cell h.box 3).trans rfl
/-- turns(mine) -/
theorem Mine.turns (h : Mine w bx lo A1 A2 A3 A4 a1 a2 a3 a4 n1 n2 n3 n4 it1 it3) (h1 : n1 ≤ 100) (h2 : n2 ≤ 100) (h3 : n3 ≤ 100) (h4 : n4 ≤ 100) : Calls Tryz.prog 13 #[.agg #[.slice A1 n1 a1, .slice A2 n2 a2, .slice A3 n3 a3, .slice A4 n4 a4]] w (Pure w (.bool true)) := by
  obtain ⟨l1, e1, m1, t1⟩ := h.p1
  obtain ⟨l2, e2, m2, t2⟩ := h.p2
  obtain ⟨l3, e3, t3⟩ := h.q3
  obtain ⟨l4, e4, t4⟩ := h.q4
  subst e1 e2 e3 e4
  exact turns_any A1 A2 A3 A4 a1 a2 a3 a4 l1 l2 l3 l4 w t1.free t2.free t3 t4.free h1 h2 h3 h4
/-- peer i: what its element holds; its key is a block of its own -/
theorem Mine.peer (h : Mine w bx lo A1 A2 A3 A4 a1 a2 a3 a4 n1 n2 n3 n4 it1 it3) {i : Nat} (hi : i < n1) : ∃ (b o g c : Nat) (d : PeerD) (P : Option Addr) (p : Nat), A1 = some ⟨b, o, none⟩ ∧ w.cell? ⟨b, o + i * 3, none⟩ = some (.int .i64 d.link) ∧ w.cell? ⟨b, o + i * 3 + 1, none⟩ = some (.slice (some ⟨g, 0, none⟩) d.key.length c) ∧ w.cell? ⟨b, o + i * 3 + 2, none⟩ = some (.slice P d.ps.length p)
    ∧ Bs w (some ⟨g, 0, none⟩) c d.key ∧ Ps w P p d.ps ∧ (g, d.key.length, c) ∈ it1 ++ it3 ∧ OkI w (g, d.key.length, c) := by
  obtain ⟨l1, e1, m1, t1⟩ := h.p1
  have hl : i < l1.length := by omega
  have hit : i < it1.length := by rw [h.l1]; exact hi
  obtain ⟨b, o, G, c, P, p, eA, _, x0, x1, x2, s1, s2⟩ := t1.free.peer i l1[i] (List.getElem?_eq_getElem hl)
  obtain ⟨g, n, c', eg⟩ : ∃ g n c', it1[i] = (g, n, c') := ⟨_, _, _, rfl⟩
  obtain ⟨⟨b', o', e', _, hc'⟩, k1, k2, k3, k4⟩ := h.k1.at_ i g n c' (by rw [List.getElem?_eq_getElem hit, eg])
  rw [eA] at e'
  cases e'
  rw [x1] at hc'
  injection hc' with hc'
  injection hc' with q1 q2 q3
  subst q1 q2 q3
  exact ⟨b, o, g, c, l1[i], P, p, eA, x0, x1, x2, s1.1, s2.1, List.mem_append_left _ (by rw [← eg]; exact List.getElem_mem hit), k4, k1, k2, k3⟩
theorem Mine.lane (h : Mine w bx lo A1 A2 A3 A4 a1 a2 a3 a4 n1 n2 n3 n4 it1 it3) {i : Nat} (hi : i < n3) : ∃ (b o g c : Nat) (d : LaneD), A3 = some ⟨b, o, none⟩ ∧ w.cell? ⟨b, o + i * 8, none⟩ = some (.slice (some ⟨g, 0, none⟩) d.key.length c) ∧ w.cell? ⟨b, o + i * 8 + 1, none⟩ = some (.int .i64 d.side) ∧ w.cell? ⟨b, o + i * 8 + 2, none⟩ = some (.int .i64 d.cur)
      ∧ w.cell? ⟨b, o + i * 8 + 3, none⟩ = some (.int .i64 d.next) ∧ w.cell? ⟨b, o + i * 8 + 4, none⟩ = some (.int .u64 (d.sc : Int)) ∧ w.cell? ⟨b, o + i * 8 + 5, none⟩ = some (.int .u64 (d.ceil : Int))
      ∧ w.cell? ⟨b, o + i * 8 + 6, none⟩ = some (.int .i64 d.sec) ∧ w.cell? ⟨b, o + i * 8 + 7, none⟩ = some (.int .i64 d.nano) ∧ LaneB d ∧ Bs w (some ⟨g, 0, none⟩) c d.key ∧ (g, d.key.length, c) ∈ it1 ++ it3 ∧ OkI w (g, d.key.length, c) ∧ lo ≤ b ∧ b < w.heap.size ∧ (∀ j, w.frozen? ⟨b, j, none⟩ = false) := by
  obtain ⟨l3, e3, t3⟩ := h.q3
  have hl : i < l3.length := by omega
  have hit : i < it3.length := by rw [h.l3]; exact hi
  obtain ⟨b, o, G, c, eA, hb, x0, x1, x2, x3, x4, x5, x6, x7, s1, lb⟩ := t3.lane i l3[i] (List.getElem?_eq_getElem hl)
  obtain ⟨g, n, c', eg⟩ : ∃ g n c', it3[i] = (g, n, c') := ⟨_, _, _, rfl⟩
  obtain ⟨⟨b', o', e', _, hc'⟩, k1, k2, k3, k4⟩ := h.k3.at_ i g n c' (by rw [List.getElem?_eq_getElem hit, eg])
  rw [eA] at e'
  cases e'
  rw [Nat.add_zero, x0] at hc'
  injection hc' with hc'
  injection hc' with q1 q2 q3
  subst q1 q2 q3
  obtain ⟨r1, cs, r2⟩ := h.r3 b o eA
  exact ⟨b, o, g, c, l3[i], eA, x0, x1, x2, x3, x4, x5, x6, x7, lb, s1.1, List.mem_append_right _ (by rw [← eg]; exact List.getElem_mem hit), ⟨k4, k1, k2, k3⟩, r1, hb, fun j => blk_free r2 j⟩
end
end Go.Proofs.YtafdhccdjbfepaaGreat.Lst
/- The new case's box; two runs of new blocks. -/
namespace Go.Proofs.YtafdhccdjbfepaaGreat.Lst
open Go.RowKit Go.Proofs.YtafdhccdjbfepaaGreat.K Go.Proofs.YtafdhccdjbfepaaGreat.Help Go.Proofs.YtafdhccdjbfepaaGreat.Pfx Go.Proofs.YtafdhccdjbfepaaGreat.Peer
set_option linter.unusedVariables false
theorem boxed4 {w : World} {b : Nat} {z0 z1 z2 z3 u0 u1 u2 u3 : Value} {t : TypeId} (h : w.heap[b]? = some (.cells #[z0, z1, z2, z3] t (0, 0))) :
    ((((w.setCell ⟨b, 0, none⟩ u0).setCell ⟨b, 1, none⟩ u1).setCell ⟨b, 2, none⟩ u2).setCell ⟨b, 3, none⟩ u3).heap[b]? = some (.cells #[u0, u1, u2, u3] t (0, 0)) ∧ Only w ((((w.setCell ⟨b, 0, none⟩ u0).setCell ⟨b, 1, none⟩ u1).setCell ⟨b, 2, none⟩ u2).setCell ⟨b, 3, none⟩ u3) (fun i => i = b) := by
  refine ⟨?_, ((((Only.refl w (fun i => i = b)).setCell (p := ⟨b, 0, none⟩) (.inl rfl) u0).setCell (p := ⟨b, 1, none⟩) (.inl rfl) u1).setCell (p := ⟨b, 2, none⟩) (.inl rfl) u2).setCell (p := ⟨b, 3, none⟩) (.inl rfl) u3⟩
  rw [blk_set (blk_set (blk_set (blk_set h 0 u0) 1 u1) 2 u2) 3 u3]
  simp
/-- their blocks differ -/
theorem rise_dis {lo m m2 hi : Nat} {it1 it3 : List KIt} (h1 : Rise lo m it1) (h3 : Rise m2 hi it3) (hm : m ≤ m2) : ∀ x, x ∈ it1 ++ it3 → ∀ y, y ∈ it1 ++ it3 → x.1 = y.1 → x = y := fun x hx y hy e => by
  rcases List.mem_append.1 hx with hx | hx <;> rcases List.mem_append.1 hy with hy | hy
  · exact rise_one h1 hx hy e
  · have a := h1.2 x hx; have b := h3.2 y hy; omega
  · have a := h3.2 x hx; have b := h1.2 y hy; omega
  · exact rise_one h3 hx hy e
end Go.Proofs.YtafdhccdjbfepaaGreat.Lst
/- The case laid down, made of what peersLaid and lanesLaid answered. -/
namespace Go.Proofs.YtafdhccdjbfepaaGreat.Lst
open Go.RowKit Go.Proofs.YtafdhccdjbfepaaGreat.K Go.Proofs.YtafdhccdjbfepaaGreat.Help Go.Proofs.YtafdhccdjbfepaaGreat.Pfx Go.Proofs.YtafdhccdjbfepaaGreat.Peer
set_option linter.unusedVariables false
section
variable {w w' : World} {N : Nat → Prop} {A : Option Addr} {c lo b p : Nat} {cs : Array Value} {fr : Nat × Nat} {X : Option Addr} {xn xc : Nat} {v : Value}
theorem rowB_ne {t t2 : TypeId} (hr : RowB w lo t A) (hb : w.heap[b]? = some (.cells cs t2 fr)) (ht : t ≠ t2) {bk off : Nat} (e : A = some ⟨bk, off, none⟩) : bk ≠ b := by
  obtain ⟨_, cs', h⟩ := hr bk off e
  exact blk_ne h hb ht
theorem bsn_box {l : List UInt8} (h : BsN w N A c l) (ho : w.cell? ⟨b, p, none⟩ = some (.slice X xn xc)) : BsN (w.setCell ⟨b, p, none⟩ v) N A c l := ⟨bs_set h.1 ho notU8_slice, h.2⟩
theorem psn_box {l : List PfxI} (h : PsN w N A c l) (ho : w.cell? ⟨b, p, none⟩ = some (.slice X xn xc)) : PsN (w.setCell ⟨b, p, none⟩ v) N A c l := ⟨ps_set h.1 ho (fun _ h => by cases h) (fun _ h => by cases h), h.2⟩
theorem lstP_box {l : List PeerD} (h : Lst PeerE w N A c l) (hr : RowB w lo 36 A) (hb : w.heap[b]? = some (.cells cs 25 fr)) (ho : w.cell? ⟨b, p, none⟩ = some (.slice X xn xc)) : Lst PeerE (w.setCell ⟨b, p, none⟩ v) N A c l :=
  ⟨h.le, h.max, fun i x hx => by
    obtain ⟨bk, off, raw, e, hlt, hn, hc, A1, a1, B1, b1, er, s1, s2⟩ := h.at_ i x hx
    have hne := rowB_ne hr hb (by decide) e
    exact ⟨bk, off, raw, e, by rw [size_set]; exact hlt, hn, fun j hj => by rw [cell_set, if_neg (fun h => hne h.1)]; exact hc j hj, A1, a1, B1, b1, er, bsn_box s1 ho, psn_box s2 ho⟩⟩
theorem lstL_box {l : List LaneD} (h : Lst LaneE w N A c l) (hr : RowB w lo 43 A) (hb : w.heap[b]? = some (.cells cs 25 fr)) (ho : w.cell? ⟨b, p, none⟩ = some (.slice X xn xc)) : Lst LaneE (w.setCell ⟨b, p, none⟩ v) N A c l :=
  ⟨h.le, h.max, fun i x hx => by
    obtain ⟨bk, off, raw, e, hlt, hn, hc, A1, a1, er, s1, lb⟩ := h.at_ i x hx
    have hne := rowB_ne hr hb (by decide) e
    exact ⟨bk, off, raw, e, by rw [size_set]; exact hlt, hn, fun j hj => by rw [cell_set, if_neg (fun h => hne h.1)]; exact hc j hj, A1, a1, er, bsn_box s1 ho, lb⟩⟩
theorem ksAt_box {sz f : Nat} {it : List KIt} {t : TypeId} (h : KsAt w A sz f it) (hr : RowB w lo t A) (hb : w.heap[b]? = some (.cells cs 25 fr)) (ht : t ≠ 25) : KsAt (w.setCell ⟨b, p, none⟩ v) A sz f it := by
  have k : Only w (w.setCell ⟨b, p, none⟩ v) (fun i => i = b) := (Only.refl w (fun i => i = b)).setCell (p := ⟨b, _, none⟩) (.inl rfl) _
  refine ⟨fun i g' n' c' e => ?_⟩
  obtain ⟨⟨bk', off', e1, h1, h2⟩, h3, h4, h5, h6⟩ := h.at_ i g' n' c' e
  refine ⟨⟨bk', off', e1, by rw [size_set]; exact h1, cell_ne h2 (fun he => rowB_ne hr hb ht e1 he.1)⟩, h3, h4, h5, h6.only k (fun e => ?_)⟩
  exact h6.ne hb (by decide) e.symm
end
structure Four (w : World) (lo : Nat) (A1 A2 A3 A4 : Option Addr) (a1 a2 a3 a4 n1 n2 n3 n4 : Nat) (it1 it3 : List KIt) : Prop where
  p1 : ∃ l, l.length = n1 ∧ (∀ x, x ∈ l → x.ps.length ≤ 60) ∧ Lst PeerE w (AvA A3) A1 a1 l
  p2 : ∃ l, l.length = n2 ∧ (∀ x, x ∈ l → x.ps.length ≤ 60) ∧ Lst PeerE w (AvA A3) A2 a2 l
  q3 : ∃ l, l.length = n3 ∧ Lst LaneE w (fun _ => False) A3 a3 l
  q4 : ∃ l, l.length = n4 ∧ Lst LaneE w (AvA A3) A4 a4 l
  k1 : KsAt w A1 3 1 it1
  l1 : it1.length = n1
  k3 : KsAt w A3 8 0 it3
  l3 : it3.length = n3
  r1 : RowB w lo 36 A1
  r2 : RowB w lo 36 A2
  r3 : RowB w lo 43 A3
  r4 : RowB w lo 43 A4
  dis : ∀ x, x ∈ it1 ++ it3 → ∀ y, y ∈ it1 ++ it3 → x.1 = y.1 → x = y
  new : ∀ x, x ∈ it1 ++ it3 → lo ≤ x.1
section
variable {w w' : World} {b p lo : Nat} {A1 A2 A3 A4 : Option Addr} {a1 a2 a3 a4 n1 n2 n3 n4 : Nat} {it1 it3 : List KIt} {cs : Array Value} {fr : Nat × Nat}
theorem Four.keep (h : Four w lo A1 A2 A3 A4 a1 a2 a3 a4 n1 n2 n3 n4 it1 it3) (hb : Below w.heap.size w w') : Four w' lo A1 A2 A3 A4 a1 a2 a3 a4 n1 n2 n3 n4 it1 it3 := by
  obtain ⟨l1, e1, m1, t1⟩ := h.p1
  obtain ⟨l2, e2, m2, t2⟩ := h.p2
  obtain ⟨l3, e3, t3⟩ := h.q3
  obtain ⟨l4, e4, t4⟩ := h.q4
  exact ⟨⟨l1, e1, m1, t1.below hb⟩, ⟨l2, e2, m2, t2.below hb⟩, ⟨l3, e3, t3.below hb⟩, ⟨l4, e4, t4.below hb⟩, h.k1.keep hb, h.l1, h.k3.keep hb, h.l3, h.r1.keep hb, h.r2.keep hb, h.r3.keep hb, h.r4.keep hb, h.dis, h.new⟩
theorem Four.set (h : Four w lo A1 A2 A3 A4 a1 a2 a3 a4 n1 n2 n3 n4 it1 it3) (hb : w.heap[b]? = some (.cells cs 25 fr)) {X : Option Addr} {xn xc : Nat} (ho : w.cell? ⟨b, p, none⟩ = some (.slice X xn xc)) (v : Value) : Four (w.setCell ⟨b, p, none⟩ v) lo A1 A2 A3 A4 a1 a2 a3 a4 n1 n2 n3 n4 it1 it3 := by
  obtain ⟨l1, e1, m1, t1⟩ := h.p1
  obtain ⟨l2, e2, m2, t2⟩ := h.p2
  obtain ⟨l3, e3, t3⟩ := h.q3
  obtain ⟨l4, e4, t4⟩ := h.q4
  exact ⟨⟨l1, e1, m1, lstP_box t1 h.r1 hb ho⟩, ⟨l2, e2, m2, lstP_box t2 h.r2 hb ho⟩, ⟨l3, e3, lstL_box t3 h.r3 hb ho⟩, ⟨l4, e4, lstL_box t4 h.r4 hb ho⟩, ksAt_box h.k1 h.r1 hb (by decide), h.l1, ksAt_box h.k3 h.r3 hb (by decide), h.l3, h.r1.set _, h.r2.set _, h.r3.set _, h.r4.set _, h.dis, h.new⟩
theorem Four.mine (h : Four w lo A1 A2 A3 A4 a1 a2 a3 a4 n1 n2 n3 n4 it1 it3) (hb : w.heap[b]? = some (.cells #[.slice A1 n1 a1, .slice A2 n2 a2, .slice A3 n3 a3, .slice A4 n4 a4] 25 (0, 0))) : Mine w b lo A1 A2 A3 A4 a1 a2 a3 a4 n1 n2 n3 n4 it1 it3 :=
  ⟨hb, h.p1, h.p2, h.q3, h.q4, h.k1, h.l1, h.k3, h.l3, h.r3, h.dis, h.new⟩
/-- the box was there and empty -/
theorem Four.boxed (h : Four w lo A1 A2 A3 A4 a1 a2 a3 a4 n1 n2 n3 n4 it1 it3) (hb : w.heap[b]? = some (.cells #[.slice none 0 0, .slice none 0 0, .slice none 0 0, .slice none 0 0] 25 (0, 0))) :
    Mine ((((w.setCell ⟨b, 0, none⟩ (.slice A1 n1 a1)).setCell ⟨b, 1, none⟩ (.slice A2 n2 a2)).setCell ⟨b, 2, none⟩ (.slice A3 n3 a3)).setCell ⟨b, 3, none⟩ (.slice A4 n4 a4)) b lo A1 A2 A3 A4 a1 a2 a3 a4 n1 n2 n3 n4 it1 it3 := by
  have b1 := blk_set hb 0 (.slice A1 n1 a1)
  have b2 := blk_set b1 1 (.slice A2 n2 a2)
  have b3 := blk_set b2 2 (.slice A3 n3 a3)
  have h1 := h.set (p := 0) hb ((blk_cell hb 0).trans (b := some (Value.slice none 0 0)) rfl) (.slice A1 n1 a1)
  have h2 := h1.set (p := 1) b1 ((blk_cell b1 1).trans (b := some (Value.slice none 0 0)) rfl) (.slice A2 n2 a2)
  have h3 := h2.set (p := 2) b2 ((blk_cell b2 2).trans (b := some (Value.slice none 0 0)) rfl) (.slice A3 n3 a3)
  have h4 := h3.set (p := 3) b3 ((blk_cell b3 3).trans (b := some (Value.slice none 0 0)) rfl) (.slice A4 n4 a4)
  exact h4.mine (boxed4 hb).1
end
theorem Rise.low {lo lo' hi : Nat} {it : List KIt} (hl : lo' ≤ lo) (h : Rise lo hi it) : Rise lo' hi it := ⟨h.1, fun x hx => ⟨Nat.le_trans hl (h.2 x hx).1, (h.2 x hx).2⟩⟩
theorem RowB.low {w : World} {lo lo' : Nat} {t : TypeId} {M : Option Addr} (hl : lo' ≤ lo) (h : RowB w lo t M) : RowB w lo' t M := fun bk off e => ⟨Nat.le_trans hl (h bk off e).1, (h bk off e).2⟩
/-- what the four calls answered -/
theorem four_of {w4 w5 w6 w7 w8 : World} {lo : Nat} {ps ps' : List PeerD} {ls ls' : List LaneD} {M1 M2 M3 M4 : Option Addr} {m1 m2 m3 m4 : Nat} {it1 it2 it3 it4 : List KIt} (hlo : lo ≤ w4.heap.size) (hF : (∀ x, x ∈ ps → x.ps.length ≤ 60) ∧ ∀ x, x ∈ ps' → x.ps.length ≤ 60)
    (R1 : Lst PeerE w5 (fun _ => False) M1 m1 ps ∧ KsAt w5 M1 3 1 it1 ∧ it1.length = ps.length ∧ Rise w4.heap.size w5.heap.size it1 ∧ RowB w5 w4.heap.size 36 M1)
    (R2 : Lst PeerE w6 (fun _ => False) M2 m2 ps' ∧ KsAt w6 M2 3 1 it2 ∧ it2.length = ps'.length ∧ Rise w5.heap.size w6.heap.size it2 ∧ RowB w6 w5.heap.size 36 M2)
    (R3 : Lst LaneE w7 (fun _ => False) M3 m3 ls ∧ KsAt w7 M3 8 0 it3 ∧ it3.length = ls.length ∧ Rise w6.heap.size w7.heap.size it3 ∧ RowB w7 w6.heap.size 43 M3)
    (R4 : Lst LaneE w8 (fun _ => False) M4 m4 ls' ∧ KsAt w8 M4 8 0 it4 ∧ it4.length = ls'.length ∧ Rise w7.heap.size w8.heap.size it4 ∧ RowB w8 w7.heap.size 43 M4)
    (H1 : Below w4.heap.size w4 w5) (H2 : Below w5.heap.size w5 w6) (H3 : Below w6.heap.size w6 w7) (H4 : Below w7.heap.size w7 w8) :
    Four w8 lo M1 M2 M3 M4 m1 m2 m3 m4 ps.length ps'.length ls.length ls'.length it1 it3 := by
  obtain ⟨a1, b1, c1, d1, e1⟩ := R1
  obtain ⟨a2, b2, c2, d2, e2⟩ := R2
  obtain ⟨a3, b3, c3, d3, e3⟩ := R3
  obtain ⟨a4, b4, c4, d4, e4⟩ := R4
  have s1 := H1.size
  have s2 := H2.size
  have s3 := H3.size
  have s4 := H4.size
  have H34 := below_step H3 H4
  have H24 := below_step H2 H34
  have av : ∀ i, AvA M3 i → w6.heap.size ≤ i ∧ i < w7.heap.size := fun i h => by
    obtain ⟨o, e⟩ := h
    obtain ⟨h1, cs, h2⟩ := e3 i o e
    exact ⟨h1, blk_lt h2⟩
  have mono : ∀ {w : World} {lo' : Nat} {t : TypeId} {M : Option Addr}, lo ≤ lo' → RowB w lo' t M → RowB w lo t M := fun hl h bk off e => ⟨Nat.le_trans hl (h bk off e).1, (h bk off e).2⟩
  refine ⟨⟨ps, rfl, hF.1, (a1.reno (N' := AvA M3) (fun i h => .inr (by have := av i h; omega))).below H24⟩, ⟨ps', rfl, hF.2, (a2.reno (N' := AvA M3) (fun i h => .inr (by have := av i h; omega))).below H34⟩, ⟨ls, rfl, a3.below H4⟩, ⟨ls', rfl, lstL_new a4 b4 c4 d4 e4 (fun i h => (av i h).2)⟩, b1.keep H24, c1, b3.keep H4, c3, mono hlo (e1.keep H24), mono (by omega) (e2.keep H34), mono (by omega) (e3.keep H4), mono (by omega) e4, rise_dis d1 d3 s2, fun x hx => ?_⟩
  rcases List.mem_append.1 hx with h | h
  · exact Nat.le_trans hlo (d1.2 x h).1
  · have := (d3.2 x h).1; omega
end Go.Proofs.YtafdhccdjbfepaaGreat.Lst
/- The walk of RowsPlace. -/
namespace Go.Proofs.YtafdhccdjbfepaaGreat.rowsPlace
open Go.RowKit Go.Proofs.YtafdhccdjbfepaaGreat.K Go.Proofs.YtafdhccdjbfepaaGreat.Help Go.Proofs.YtafdhccdjbfepaaGreat.Lst Go.Proofs.YtafdhccdjbfepaaGreat.Peer
set_option linter.unusedVariables false
def Laid4 (W : World) (n1 n2 n3 n4 : Nat) (s : Value) (wx : World) : Prop := ∃ (bx : Nat) (A1 A2 A3 A4 : Option Addr) (a1 a2 a3 a4 : Nat) (it1 it3 : List KIt), s = .pointer (some ⟨bx, 0, none⟩) ∧ Mine wx bx W.heap.size A1 A2 A3 A4 a1 a2 a3 a4 n1 n2 n3 n4 it1 it3 ∧ Below W.heap.size W wx
set_option maxRecDepth 100000 in
set_option maxHeartbeats 8000000 in
theorem walk (A A' B B' : Option Addr) (a a' b b' : Nat) (ps ps' : List PeerD) (ls ls' : List LaneD) (C : Option Addr) (c : Nat) (rs : List RowD) (W : World) (hp : Lst PeerE W (fun _ => False) A a ps) (hp' : Lst PeerE W (fun _ => False) A' a' ps') (hq : Lst LaneE W (fun _ => False) B b ls) (hq' : Lst LaneE W (fun _ => False) B' b' ls') (hr : Lst RowE W (fun _ => False) C c rs) :
    Calls Tryz.prog 3 #[caseV A A' B B' a a' b b' ps.length ps'.length ls.length ls'.length, .slice C rs.length c] W fun e W' => e = .returned (.bool true) ∧ Below W.heap.size W W' := by
  have hb0 := below_alloc (Below.refl W.heap.size W) (.cells #[.slice A ps.length a, .slice A' ps'.length a', .slice B ls.length b, .slice B' ls'.length b'] 25)
  have S0 := hand (hand (hand (hand (hand (hand (hstart (hr.below hb0)) (hq'.below hb0)) (hq.below hb0)) (hp'.below hb0)) (hp.below hb0)) hb0) (blk_new W (.cells #[.slice A ps.length a, .slice A' ps'.length a', .slice B ls.length b, .slice B' ls'.length b'] 25))
  have FT := Lib.hid (fun w h h' => fits_any A A' B B' a a' b b' ls.length ls'.length ps ps' w h h')
  have LT := Lib.hid (fun w h1 h2 h3 h4 h5 => little_any A A' B B' C a a' b b' c ps ps' ls ls' rs w h1 h2 h3 h4 h5)
  clear hp hp' hq hq' hr hb0
  unfold caseV at FT LT ⊢
  generalize hw0 : W.alloc (.cells #[.slice A ps.length a, .slice A' ps'.length a', .slice B ls.length b, .slice B' ls'.length b'] 25) = w0 at *
  subst hw0
  have P1 := Lib.hid (first_any (W.alloc (.cells #[.slice A ps.length a, .slice A' ps'.length a', .slice B ls.length b, .slice B' ls'.length b'] 25)))
  obtain ⟨nr, hnr⟩ : ∃ n, n = rs.length := ⟨_, rfl⟩
  have HNR := Lib.hid hnr
  rw [← hnr] at LT ⊢
  clear hnr
  go_enter Tryz.func3, Tryz.ntmps3
  go_wp2_with fail
  (with_reducible refine P1.out.mono ?_)
  rintro e w1 ⟨rfl, hb1⟩
  have S1 := hkeep hb1 S0
  have y0 := (blk_cell S1.out.1 0).trans (b := some (Value.slice A ps.length a)) rfl
  have y1 := (blk_cell S1.out.1 1).trans (b := some (Value.slice A' ps'.length a')) rfl
  have y2 := (blk_cell S1.out.1 2).trans (b := some (Value.slice B ls.length b)) rfl
  have y3 := (blk_cell S1.out.1 3).trans (b := some (Value.slice B' ls'.length b')) rfl
  have FT1 := Lib.hid (FT.out w1 S1.out.2.2.1 S1.out.2.2.2.1)
  clear hb1 S0 P1 FT
  go_wp2_with fail
  (with_reducible refine FT1.out.mono ?_)
  rintro e w2 ⟨fb, rfl, hf, hb2⟩
  have S2 := hkeep hb2 S1
  have HF := Lib.hid hf
  clear hf hb2 S1 FT1 y0 y1 y2 y3
  cases fb
  · have BF := Lib.hid S2.out.2.1
    go_wp2_with fail
    go_ret
    exact ⟨by first | rfl | simp, BF.out⟩
  by_cases hmost : 60 < nr
  · have hmo : (60 : Int) < (nr : Int) := by omega
    have BF := Lib.hid S2.out.2.1
    go_wp2_with fail
    go_ret
    exact ⟨by first | rfl | simp, BF.out⟩
  have hmo : ¬ (60 : Int) < (nr : Int) := by omega
  have y0 := (blk_cell S2.out.1 0).trans (b := some (Value.slice A ps.length a)) rfl
  have y1 := (blk_cell S2.out.1 1).trans (b := some (Value.slice A' ps'.length a')) rfl
  have y2 := (blk_cell S2.out.1 2).trans (b := some (Value.slice B ls.length b)) rfl
  have y3 := (blk_cell S2.out.1 3).trans (b := some (Value.slice B' ls'.length b')) rfl
  have LT1 := Lib.hid (LT.out w2 S2.out.2.2.1 S2.out.2.2.2.1 S2.out.2.2.2.2.1 S2.out.2.2.2.2.2.1 S2.out.2.2.2.2.2.2.1)
  clear LT
  go_wp2_with fail
  (with_reducible refine LT1.out.mono ?_)
  rintro e w3 ⟨lb, rfl, hle, hb3⟩
  have S3 := hkeep hb3 S2
  have HLE := Lib.hid hle
  clear hle hb3 S2 LT1 y0 y1 y2 y3
  cases lb
  · have BF := Lib.hid S3.out.2.1
    go_wp2_with fail
    go_ret
    exact ⟨by first | rfl | simp, BF.out⟩
  obtain ⟨g1, g2, g3, g4, g5⟩ := HLE.out rfl
  have RP := Lib.hid (rowsPlace_any C c rs w3 S3.out.2.2.2.2.2.2.1 (by rw [← HNR.out]; omega) (fun x hx => by have := g1 x hx; omega))
  rw [← HNR.out] at RP
  go_wp2_with fail
  (with_reducible refine RP.out.mono ?_)
  rintro e w4 ⟨rfl, hb4⟩
  have S4 := hkeep hb4 S3
  clear hb4 S3 RP
  obtain ⟨f1, f2, f3, f4, f5, f6⟩ := HF.out (by first | rfl | trivial)
  have PA := Lib.hid (fun w h => peersLaid_any A a ps w h (by omega) (fun x hx => by have := f5 x hx; omega) (fun x hx => by have := g2 x hx; omega))
  have PB := Lib.hid (fun w h => peersLaid_any A' a' ps' w h (by omega) (fun x hx => by have := f6 x hx; omega) (fun x hx => by have := g3 x hx; omega))
  have LA := Lib.hid (fun w h => lanesLaid_any B b ls w h (by omega) (fun x hx => by have := g4 x hx; omega))
  have LB := Lib.hid (fun w h => lanesLaid_any B' b' ls' w h (by omega) (fun x hx => by have := g5 x hx; omega))
  have FF := Lib.hid (And.intro f5 f6)
  clear f5 f6 g1 g2 g3 g4 g5 HF HLE
  have HD : Hid (Below w4.heap.size w4 w4.drew) := Lib.hid (below_drewN (Below.refl _ _) 1)
  have SD := hkeep HD.out S4
  have z0 := (blk_cell SD.out.1 0).trans (b := some (Value.slice A ps.length a)) rfl
  have z1 := (blk_cell SD.out.1 1).trans (b := some (Value.slice A' ps'.length a')) rfl
  have z2 := (blk_cell SD.out.1 2).trans (b := some (Value.slice B ls.length b)) rfl
  have z3 := (blk_cell SD.out.1 3).trans (b := some (Value.slice B' ls'.length b')) rfl
  have y0 := (blk_cell S4.out.1 0).trans (b := some (Value.slice A ps.length a)) rfl
  have y1 := (blk_cell S4.out.1 1).trans (b := some (Value.slice A' ps'.length a')) rfl
  have y2 := (blk_cell S4.out.1 2).trans (b := some (Value.slice B ls.length b)) rfl
  have y3 := (blk_cell S4.out.1 3).trans (b := some (Value.slice B' ls'.length b')) rfl
  have SA := hkeep (below_alloc (Below.refl w4.drew.heap.size w4.drew) (.cells #[.slice none 0 0, .slice none 0 0, .slice none 0 0, .slice none 0 0] 25)) SD
  have za0 := (blk_cell SA.out.1 0).trans (b := some (Value.slice A ps.length a)) rfl
  have za1 := (blk_cell SA.out.1 1).trans (b := some (Value.slice A' ps'.length a')) rfl
  have za2 := (blk_cell SA.out.1 2).trans (b := some (Value.slice B ls.length b)) rfl
  have za3 := (blk_cell SA.out.1 3).trans (b := some (Value.slice B' ls'.length b')) rfl
  clear SA
  have SB := hkeep (below_alloc (Below.refl w4.heap.size w4) (.cells #[.slice none 0 0, .slice none 0 0, .slice none 0 0, .slice none 0 0] 25)) S4
  have zd0 : (w4.alloc (.cells #[.slice none 0 0, .slice none 0 0, .slice none 0 0, .slice none 0 0] 25)).drew.cell? ⟨W.heap.size, 0, none⟩ = some (.slice A ps.length a) := (blk_cell SB.out.1 0).trans rfl
  have zd1 : (w4.alloc (.cells #[.slice none 0 0, .slice none 0 0, .slice none 0 0, .slice none 0 0] 25)).drew.cell? ⟨W.heap.size, 1, none⟩ = some (.slice A' ps'.length a') := (blk_cell SB.out.1 1).trans rfl
  have zd2 : (w4.alloc (.cells #[.slice none 0 0, .slice none 0 0, .slice none 0 0, .slice none 0 0] 25)).drew.cell? ⟨W.heap.size, 2, none⟩ = some (.slice B ls.length b) := (blk_cell SB.out.1 2).trans rfl
  have zd3 : (w4.alloc (.cells #[.slice none 0 0, .slice none 0 0, .slice none 0 0, .slice none 0 0] 25)).drew.cell? ⟨W.heap.size, 3, none⟩ = some (.slice B' ls'.length b') := (blk_cell SB.out.1 3).trans rfl
  clear SB
  go_wp2_with fail
  go_cut [7] from 38 to 50 (fun s7 wx => Laid4 W ps.length ps'.length ls.length ls'.length s7 wx)
  case first =>
    go_region_held3 (fun w' => w'.cell? ⟨W.heap.size, 0, none⟩ = some (.slice A ps.length a) ∧ w'.cell? ⟨W.heap.size, 1, none⟩ = some (.slice A' ps'.length a') ∧ w'.cell? ⟨W.heap.size, 2, none⟩ = some (.slice B ls.length b) ∧ w'.cell? ⟨W.heap.size, 3, none⟩ = some (.slice B' ls'.length b')) (first | (with_reducible exact ⟨h0, h1, h2, h3⟩) | (with_reducible exact ⟨g0, g1, g2, g3⟩) | (with_reducible exact ⟨f0, f1, f2, f3⟩) | (with_reducible exact ⟨e0, e1, e2, e3⟩) | (with_reducible exact ⟨z0, z1, z2, z3⟩) | (with_reducible exact ⟨zd0, zd1, zd2, zd3⟩) | (with_reducible exact ⟨hf0, hf1, hf2, hf3⟩) | (with_reducible exact ⟨ha0, ha1, ha2, ha3⟩) | (with_reducible exact ⟨ga0, ga1, ga2, ga3⟩) | (with_reducible exact ⟨fa0, fa1, fa2, fa3⟩) | (with_reducible exact ⟨ea0, ea1, ea2, ea3⟩) | (with_reducible exact ⟨za0, za1, za2, za3⟩) | exact ⟨cell_ne (cell_ne (cell_ne (cell_ne h0 (fun h => HN7.out h.1)) (fun h => HN7.out h.1)) (fun h => HN7.out h.1)) (fun h => HN7.out h.1), cell_ne (cell_ne (cell_ne (cell_ne h1 (fun h => HN7.out h.1)) (fun h => HN7.out h.1)) (fun h => HN7.out h.1)) (fun h => HN7.out h.1), cell_ne (cell_ne (cell_ne (cell_ne h2 (fun h => HN7.out h.1)) (fun h => HN7.out h.1)) (fun h => HN7.out h.1)) (fun h => HN7.out h.1), cell_ne (cell_ne (cell_ne (cell_ne h3 (fun h => HN7.out h.1)) (fun h => HN7.out h.1)) (fun h => HN7.out h.1)) (fun h => HN7.out h.1)⟩ | exact ⟨cell_ne (cell_ne (cell_ne (cell_ne h0 (fun h => HN6.out h.1)) (fun h => HN6.out h.1)) (fun h => HN6.out h.1)) (fun h => HN6.out h.1), cell_ne (cell_ne (cell_ne (cell_ne h1 (fun h => HN6.out h.1)) (fun h => HN6.out h.1)) (fun h => HN6.out h.1)) (fun h => HN6.out h.1), cell_ne (cell_ne (cell_ne (cell_ne h2 (fun h => HN6.out h.1)) (fun h => HN6.out h.1)) (fun h => HN6.out h.1)) (fun h => HN6.out h.1), cell_ne (cell_ne (cell_ne (cell_ne h3 (fun h => HN6.out h.1)) (fun h => HN6.out h.1)) (fun h => HN6.out h.1)) (fun h => HN6.out h.1)⟩ | exact ⟨cell_ne (cell_ne (cell_ne (cell_ne h0 (fun h => HN5.out h.1)) (fun h => HN5.out h.1)) (fun h => HN5.out h.1)) (fun h => HN5.out h.1), cell_ne (cell_ne (cell_ne (cell_ne h1 (fun h => HN5.out h.1)) (fun h => HN5.out h.1)) (fun h => HN5.out h.1)) (fun h => HN5.out h.1), cell_ne (cell_ne (cell_ne (cell_ne h2 (fun h => HN5.out h.1)) (fun h => HN5.out h.1)) (fun h => HN5.out h.1)) (fun h => HN5.out h.1), cell_ne (cell_ne (cell_ne (cell_ne h3 (fun h => HN5.out h.1)) (fun h => HN5.out h.1)) (fun h => HN5.out h.1)) (fun h => HN5.out h.1)⟩ | exact ⟨cell_ne (cell_ne (cell_ne (cell_ne h0 (fun h => HN4.out h.1)) (fun h => HN4.out h.1)) (fun h => HN4.out h.1)) (fun h => HN4.out h.1), cell_ne (cell_ne (cell_ne (cell_ne h1 (fun h => HN4.out h.1)) (fun h => HN4.out h.1)) (fun h => HN4.out h.1)) (fun h => HN4.out h.1), cell_ne (cell_ne (cell_ne (cell_ne h2 (fun h => HN4.out h.1)) (fun h => HN4.out h.1)) (fun h => HN4.out h.1)) (fun h => HN4.out h.1), cell_ne (cell_ne (cell_ne (cell_ne h3 (fun h => HN4.out h.1)) (fun h => HN4.out h.1)) (fun h => HN4.out h.1)) (fun h => HN4.out h.1)⟩)
      (first
      | (have hg := S7; go_at_call 9; refine (LB.out _ ((S7.out.2.2.2.2.2.1).below (by first | exact Below.refl _ _ | exact below_alloc (Below.refl _ _) _))).mono ?_; rintro e w8 ⟨M4, m4, it4, rfl, r1, r2, r3, r4, r5, hb⟩; have HB4 : Hid (Below w7.heap.size w7 w8) := Lib.hid (below_step (by first | exact Below.refl _ _ | exact below_alloc (Below.refl _ _) _) hb); have R4 := Lib.hid (And.intro r1 (And.intro r2 (And.intro r3 (And.intro (Rise.low (lo' := w7.heap.size) (by first | (with_reducible exact Nat.le_refl _) | (with_reducible exact Below.size (below_alloc (Below.refl _ _) _))) r4) (RowB.low (lo' := w7.heap.size) (by first | (with_reducible exact Nat.le_refl _) | (with_reducible exact Below.size (below_alloc (Below.refl _ _) _))) r5))))); have S8 := hkeep HB4.out S7; have h0 := (blk_cell S8.out.1 0).trans (b := some (Value.slice A ps.length a)) rfl; have h1 := (blk_cell S8.out.1 1).trans (b := some (Value.slice A' ps'.length a')) rfl; have h2 := (blk_cell S8.out.1 2).trans (b := some (Value.slice B ls.length b)) rfl; have h3 := (blk_cell S8.out.1 3).trans (b := some (Value.slice B' ls'.length b')) rfl; have SA := hkeep (below_alloc (Below.refl w8.heap.size w8) (.cells #[.slice none 0 0, .slice none 0 0, .slice none 0 0, .slice none 0 0] 25)) S8; have ha0 := (blk_cell SA.out.1 0).trans (b := some (Value.slice A ps.length a)) rfl; have ha1 := (blk_cell SA.out.1 1).trans (b := some (Value.slice A' ps'.length a')) rfl; have ha2 := (blk_cell SA.out.1 2).trans (b := some (Value.slice B ls.length b)) rfl; have ha3 := (blk_cell SA.out.1 3).trans (b := some (Value.slice B' ls'.length b')) rfl; clear SA; have SA := hkeep (below_alloc (Below.refl w8.heap.size w8) (.cells #[.slice M1 ps.length m1, .slice M2 ps'.length m2, .slice M3 ls.length m3, .slice M4 ls'.length m4] 25)) S8; have hf0 := (blk_cell SA.out.1 0).trans (b := some (Value.slice A ps.length a)) rfl; have hf1 := (blk_cell SA.out.1 1).trans (b := some (Value.slice A' ps'.length a')) rfl; have hf2 := (blk_cell SA.out.1 2).trans (b := some (Value.slice B ls.length b)) rfl; have hf3 := (blk_cell SA.out.1 3).trans (b := some (Value.slice B' ls'.length b')) rfl; clear SA; (try have X4 : Hid (w8.heap[w7.heap.size]? = some (.cells #[.slice none 0 0, .slice none 0 0, .slice none 0 0, .slice none 0 0] 25)) := Lib.hid ((hb.block w7.heap.size (blk_lt (blk_new w7 (.cells #[.slice none 0 0, .slice none 0 0, .slice none 0 0, .slice none 0 0] 25)))).trans (blk_new w7 (.cells #[.slice none 0 0, .slice none 0 0, .slice none 0 0, .slice none 0 0] 25)))); (try have X4 := Lib.hid ((HB4.out.block _ (blk_lt X3.out)).trans X3.out)); have HN7 : Hid (¬ W.heap.size = w7.heap.size) := Lib.hid (fun e => by have := blk_lt S4.out.1; have := HB1.out.size; have := HB2.out.size; have := HB3.out.size; omega); have HN6 : Hid (¬ W.heap.size = w6.heap.size) := Lib.hid (fun e => by have := blk_lt S4.out.1; have := HB1.out.size; have := HB2.out.size; have := HB3.out.size; omega); have HN5 : Hid (¬ W.heap.size = w5.heap.size) := Lib.hid (fun e => by have := blk_lt S4.out.1; have := HB1.out.size; have := HB2.out.size; have := HB3.out.size; omega); have HN4 : Hid (¬ W.heap.size = w4.heap.size) := Lib.hid (fun e => by have := blk_lt S4.out.1; have := HB1.out.size; have := HB2.out.size; have := HB3.out.size; omega); (try have k0 := (blk_cell X4.out 0).trans (b := some (Value.slice none 0 0)) rfl); (try have j0 := blk_free X4.out 0); (try have k1 := (blk_cell X4.out 1).trans (b := some (Value.slice none 0 0)) rfl); (try have j1 := blk_free X4.out 1); (try have k2 := (blk_cell X4.out 2).trans (b := some (Value.slice none 0 0)) rfl); (try have j2 := blk_free X4.out 2); (try have k3 := (blk_cell X4.out 3).trans (b := some (Value.slice none 0 0)) rfl); (try have j3 := blk_free X4.out 3); clear r1 r2 r3 r4 r5 hb hg)
      | (have hg := S6; go_at_call 9; refine (LA.out _ ((S6.out.2.2.2.2.1).below (by first | exact Below.refl _ _ | exact below_alloc (Below.refl _ _) _))).mono ?_; rintro e w7 ⟨M3, m3, it3, rfl, r1, r2, r3, r4, r5, hb⟩; have HB3 : Hid (Below w6.heap.size w6 w7) := Lib.hid (below_step (by first | exact Below.refl _ _ | exact below_alloc (Below.refl _ _) _) hb); have R3 := Lib.hid (And.intro r1 (And.intro r2 (And.intro r3 (And.intro (Rise.low (lo' := w6.heap.size) (by first | (with_reducible exact Nat.le_refl _) | (with_reducible exact Below.size (below_alloc (Below.refl _ _) _))) r4) (RowB.low (lo' := w6.heap.size) (by first | (with_reducible exact Nat.le_refl _) | (with_reducible exact Below.size (below_alloc (Below.refl _ _) _))) r5))))); have S7 := hkeep HB3.out S6; have g0 := (blk_cell S7.out.1 0).trans (b := some (Value.slice A ps.length a)) rfl; have g1 := (blk_cell S7.out.1 1).trans (b := some (Value.slice A' ps'.length a')) rfl; have g2 := (blk_cell S7.out.1 2).trans (b := some (Value.slice B ls.length b)) rfl; have g3 := (blk_cell S7.out.1 3).trans (b := some (Value.slice B' ls'.length b')) rfl; have SA := hkeep (below_alloc (Below.refl w7.heap.size w7) (.cells #[.slice none 0 0, .slice none 0 0, .slice none 0 0, .slice none 0 0] 25)) S7; have ga0 := (blk_cell SA.out.1 0).trans (b := some (Value.slice A ps.length a)) rfl; have ga1 := (blk_cell SA.out.1 1).trans (b := some (Value.slice A' ps'.length a')) rfl; have ga2 := (blk_cell SA.out.1 2).trans (b := some (Value.slice B ls.length b)) rfl; have ga3 := (blk_cell SA.out.1 3).trans (b := some (Value.slice B' ls'.length b')) rfl; clear SA; (try have X3 : Hid (w7.heap[w6.heap.size]? = some (.cells #[.slice none 0 0, .slice none 0 0, .slice none 0 0, .slice none 0 0] 25)) := Lib.hid ((hb.block w6.heap.size (blk_lt (blk_new w6 (.cells #[.slice none 0 0, .slice none 0 0, .slice none 0 0, .slice none 0 0] 25)))).trans (blk_new w6 (.cells #[.slice none 0 0, .slice none 0 0, .slice none 0 0, .slice none 0 0] 25)))); (try have X3 := Lib.hid ((HB3.out.block _ (blk_lt X2.out)).trans X2.out)); clear r1 r2 r3 r4 r5 hb hg)
      | (have hg := S5; go_at_call 8; refine (PB.out _ ((S5.out.2.2.2.1).below (by first | exact Below.refl _ _ | exact below_alloc (Below.refl _ _) _))).mono ?_; rintro e w6 ⟨M2, m2, it2, rfl, r1, r2, r3, r4, r5, hb⟩; have HB2 : Hid (Below w5.heap.size w5 w6) := Lib.hid (below_step (by first | exact Below.refl _ _ | exact below_alloc (Below.refl _ _) _) hb); have R2 := Lib.hid (And.intro r1 (And.intro r2 (And.intro r3 (And.intro (Rise.low (lo' := w5.heap.size) (by first | (with_reducible exact Nat.le_refl _) | (with_reducible exact Below.size (below_alloc (Below.refl _ _) _))) r4) (RowB.low (lo' := w5.heap.size) (by first | (with_reducible exact Nat.le_refl _) | (with_reducible exact Below.size (below_alloc (Below.refl _ _) _))) r5))))); have S6 := hkeep HB2.out S5; have f0 := (blk_cell S6.out.1 0).trans (b := some (Value.slice A ps.length a)) rfl; have f1 := (blk_cell S6.out.1 1).trans (b := some (Value.slice A' ps'.length a')) rfl; have f2 := (blk_cell S6.out.1 2).trans (b := some (Value.slice B ls.length b)) rfl; have f3 := (blk_cell S6.out.1 3).trans (b := some (Value.slice B' ls'.length b')) rfl; have SA := hkeep (below_alloc (Below.refl w6.heap.size w6) (.cells #[.slice none 0 0, .slice none 0 0, .slice none 0 0, .slice none 0 0] 25)) S6; have fa0 := (blk_cell SA.out.1 0).trans (b := some (Value.slice A ps.length a)) rfl; have fa1 := (blk_cell SA.out.1 1).trans (b := some (Value.slice A' ps'.length a')) rfl; have fa2 := (blk_cell SA.out.1 2).trans (b := some (Value.slice B ls.length b)) rfl; have fa3 := (blk_cell SA.out.1 3).trans (b := some (Value.slice B' ls'.length b')) rfl; clear SA; (try have X2 : Hid (w6.heap[w5.heap.size]? = some (.cells #[.slice none 0 0, .slice none 0 0, .slice none 0 0, .slice none 0 0] 25)) := Lib.hid ((hb.block w5.heap.size (blk_lt (blk_new w5 (.cells #[.slice none 0 0, .slice none 0 0, .slice none 0 0, .slice none 0 0] 25)))).trans (blk_new w5 (.cells #[.slice none 0 0, .slice none 0 0, .slice none 0 0, .slice none 0 0] 25)))); (try have X2 := Lib.hid ((HB2.out.block _ (blk_lt X1.out)).trans X1.out)); clear r1 r2 r3 r4 r5 hb hg)
      | (go_at_call 8; refine (PA.out _ ((S4.out.2.2.1).below (by first | exact HD.out | exact below_alloc HD.out _))).mono ?_; rintro e w5 ⟨M1, m1, it1, rfl, r1, r2, r3, r4, r5, hb⟩; have HB1 : Hid (Below w4.heap.size w4 w5) := Lib.hid (below_step (by first | exact HD.out | exact below_alloc HD.out _) hb); have R1 := Lib.hid (And.intro r1 (And.intro r2 (And.intro r3 (And.intro (Rise.low (lo' := w4.heap.size) (by first | (with_reducible exact Below.size HD.out) | (with_reducible exact Below.size (below_alloc HD.out _))) r4) (RowB.low (lo' := w4.heap.size) (by first | (with_reducible exact Below.size HD.out) | (with_reducible exact Below.size (below_alloc HD.out _))) r5))))); have S5 := hkeep HB1.out S4; have e0 := (blk_cell S5.out.1 0).trans (b := some (Value.slice A ps.length a)) rfl; have e1 := (blk_cell S5.out.1 1).trans (b := some (Value.slice A' ps'.length a')) rfl; have e2 := (blk_cell S5.out.1 2).trans (b := some (Value.slice B ls.length b)) rfl; have e3 := (blk_cell S5.out.1 3).trans (b := some (Value.slice B' ls'.length b')) rfl; have SA := hkeep (below_alloc (Below.refl w5.heap.size w5) (.cells #[.slice none 0 0, .slice none 0 0, .slice none 0 0, .slice none 0 0] 25)) S5; have ea0 := (blk_cell SA.out.1 0).trans (b := some (Value.slice A ps.length a)) rfl; have ea1 := (blk_cell SA.out.1 1).trans (b := some (Value.slice A' ps'.length a')) rfl; have ea2 := (blk_cell SA.out.1 2).trans (b := some (Value.slice B ls.length b)) rfl; have ea3 := (blk_cell SA.out.1 3).trans (b := some (Value.slice B' ls'.length b')) rfl; clear SA; (try have X1 : Hid (w5.heap[w4.heap.size]? = some (.cells #[.slice none 0 0, .slice none 0 0, .slice none 0 0, .slice none 0 0] 25)) := Lib.hid ((hb.block w4.heap.size (blk_lt (blk_new w4.drew (.cells #[.slice none 0 0, .slice none 0 0, .slice none 0 0, .slice none 0 0] 25)))).trans (blk_new w4.drew (.cells #[.slice none 0 0, .slice none 0 0, .slice none 0 0, .slice none 0 0] 25)))); clear r1 r2 r3 r4 r5 hb))
    all_goals
      have HFO := Lib.hid (four_of (lo := W.heap.size) (Nat.le_of_lt (blk_lt S4.out.1)) FF.out R1.out R2.out R3.out R4.out HB1.out HB2.out HB3.out HB4.out)
    all_goals
      have SZ : Hid (W.heap.size ≤ w4.heap.size ∧ W.heap.size ≤ w5.heap.size ∧ W.heap.size ≤ w6.heap.size ∧ W.heap.size ≤ w7.heap.size) := Lib.hid (by have h0 := blk_lt S4.out.1; have h1 := HB1.out.size; have h2 := HB2.out.size; have h3 := HB3.out.size; omega)
      go_wp2_with fail
      go_meet
      first
      | exact ⟨_, _, _, _, _, _, _, _, _, _, _, rfl, HFO.out.boxed X4.out, below_only S8.out.2.1 (boxed4 X4.out).2 (fun i hi => by rw [hi]; first | exact SZ.out.1 | exact SZ.out.2.1 | exact SZ.out.2.2.1 | exact SZ.out.2.2.2)⟩
      | exact ⟨_, _, _, _, _, _, _, _, _, _, _, rfl, (HFO.out.keep (below_alloc (Below.refl _ _) _)).mine (blk_new _ _), below_alloc S8.out.2.1 _⟩
  case rest =>
    obtain ⟨bx, A1, A2, A3, A4, a1, a2, a3, a4, it1, it3, rfl, hm0, hb0⟩ := hcut
    have M0 := Lib.hid hm0
    have B0 := Lib.hid hb0
    clear hm0 hb0 S4 SD PA PB LA LB FF HD z0 z1 z2 z3 y0 y1 y2 y3 zd0 zd1 zd2 zd3
    generalize ps.length = n1 at *
    generalize ps'.length = n2 at *
    generalize ls.length = n3 at *
    generalize ls'.length = n4 at *
    go_wp2_with fail
    go_loopg [5, 8] n1 (fun gk s5 i wr => ∃ k : Nat, k ≤ n1 ∧ gk = n1 - k ∧ s5 = .bool true ∧ i = .int .i64 (k : Int) ∧ Hid (Mine wr bx W.heap.size A1 A2 A3 A4 a1 a2 a3 a4 n1 n2 n3 n4 it1 it3) ∧ Hid (Below W.heap.size W wr))
    case atStart => exact ⟨0, by omega, rfl, rfl, rfl, M0, B0⟩
    case round =>
      clear M0 B0
      obtain ⟨k, hk, rfl, rfl, rfl, M0, B0⟩ := hrel
      by_cases hlt : k < n1
      · have i1 : (k : Int) < (n1 : Int) := by omega
        have i0 : (0 : Int) ≤ (k : Int) := by omega
        obtain ⟨b, o, g, c, d, P, p, eA, x0, x1, x2, s1, s2, hm, ok⟩ := M0.out.peer hlt
        subst eA
        have cb := M0.out.c0
        have PP := Lib.hid (peerPut_any (some ⟨g, 0, none⟩) P c p d wr s1 s2)
        unfold peerV at PP
        clear s1 s2 hm ok
        go_wp2_with fail
        (with_reducible refine PP.out.mono ?_)
        rintro e w1 ⟨rfl, hb⟩
        have M1 := Lib.hid (M0.out.keep hb)
        have B1 := Lib.hid (below_step B0.out hb)
        clear PP cb hb x0 x1 x2 M0 B0
        obtain ⟨b, o, g, c, d, P, p, eA, x0, x1, x2, s1, s2, hm, ok⟩ := M1.out.peer hlt
        cases eA
        have cb := M1.out.c0
        have TU := Lib.hid (turn_any g d.key.length c w1 ok.1 ok.2.2.2)
        have KM := Lib.hid (fun w' u k m => M1.out.turn (w' := w') hm u k ok.1 m)
        have GN := Lib.hid (M1.out.new _ hm)
        clear s1 s2 hm ok x0 x2
        generalize d.key.length = dl at *
        go_wp2_with fail
        (with_reducible refine TU.out.mono ?_)
        rintro e w2 ⟨rfl, m, u, kk⟩
        have M2 := Lib.hid (KM.out _ u kk m)
        have B2 := Lib.hid (below_only B1.out kk (fun i hi => by rw [hi]; exact GN.out))
        clear TU KM GN cb m u kk x1 M1 B1
        obtain ⟨b, o, g, c, d, P, p, eA, x0, x1, x2, s1, s2, hm, ok⟩ := M2.out.peer hlt
        cases eA
        have cb := M2.out.c0
        have PP := Lib.hid (peerPut_any (some ⟨g, 0, none⟩) P c p d w2 s1 s2)
        unfold peerV at PP
        clear s1 s2 hm ok
        go_wp2_with fail
        (with_reducible refine PP.out.mono ?_)
        rintro e w3 ⟨rfl, hb⟩
        have M3 := Lib.hid (M2.out.keep hb)
        have B3 := Lib.hid (below_step B2.out hb)
        clear PP cb hb x0 x1 x2 M2 B2
        obtain ⟨b, o, g, c, d, P, p, eA, x0, x1, x2, s1, s2, hm, ok⟩ := M3.out.peer hlt
        cases eA
        have cb := M3.out.c0
        have TU := Lib.hid (turn_any g d.key.length c w3 ok.1 ok.2.2.2)
        have KM := Lib.hid (fun w' u k m => M3.out.turn (w' := w') hm u k ok.1 m)
        have GN := Lib.hid (M3.out.new _ hm)
        clear s1 s2 hm ok x0 x2
        generalize d.key.length = dl at *
        go_wp2_with fail
        (with_reducible refine TU.out.mono ?_)
        rintro e w4 ⟨rfl, m, u, kk⟩
        have M4 := Lib.hid (KM.out _ u kk m)
        have B4 := Lib.hid (below_only B3.out kk (fun i hi => by rw [hi]; exact GN.out))
        clear TU KM GN cb m u kk x1 M3 B3
        go_wp2_with fail
        go_roundg (n1 - (k + 1))
        case measure => omega
        case rel => exact ⟨k + 1, by omega, rfl, rfl, by go_num, M4, B4⟩
      · have i1 : ¬ (k : Int) < (n1 : Int) := by omega
        have cb := M0.out.c0
        generalize wr = wv at *
        go_wp2_with fail
        go_loopg [5, 11] n3 (fun gk s5 i wr => ∃ k : Nat, k ≤ n3 ∧ gk = n3 - k ∧ s5 = .bool true ∧ i = .int .i64 (k : Int) ∧ Hid (Mine wr bx W.heap.size A1 A2 A3 A4 a1 a2 a3 a4 n1 n2 n3 n4 it1 it3) ∧ Hid (Below W.heap.size W wr))
        case atStart => exact ⟨0, by omega, rfl, rfl, rfl, M0, B0⟩
        case round =>
          clear M0 B0
          obtain ⟨k, hk, rfl, rfl, rfl, M0, B0⟩ := hrel
          by_cases hlt : k < n3
          · have i1 : (k : Int) < (n3 : Int) := by omega
            have i0 : (0 : Int) ≤ (k : Int) := by omega
            obtain ⟨b, o, g, c, d, eA, x0, x1, x2, x3, x4, x5, x6, x7, lb, s1, hm, ok, hbl, hbb, hfr⟩ := M0.out.lane hlt
            subst eA
            have cb := M0.out.c2
            have PP := Lib.hid (lanePut_any (some ⟨g, 0, none⟩) c d wr s1 lb)
            unfold laneV at PP
            clear s1 lb hm ok hbl hbb hfr
            go_wp2_with fail
            (with_reducible refine PP.out.mono ?_)
            rintro e w1 ⟨rfl, hb⟩
            have M1 := Lib.hid (M0.out.keep hb)
            have B1 := Lib.hid (below_step B0.out hb)
            clear PP cb hb x0 x1 x2 x3 x4 x5 x6 x7 M0 B0
            obtain ⟨b, o, g, c, d, eA, x0, x1, x2, x3, x4, x5, x6, x7, lb, s1, hm, ok, hbl, hbb, hfr⟩ := M1.out.lane hlt
            cases eA
            have cb := M1.out.c2
            have TU := Lib.hid (turn_any g d.key.length c w1 ok.1 ok.2.2.2)
            have KM := Lib.hid (fun w' u k m => M1.out.turn (w' := w') hm u k ok.1 m)
            have GN := Lib.hid (M1.out.new _ hm)
            clear lb s1 hm ok hbl hbb hfr x1 x2 x3 x4 x5 x6 x7
            generalize d.key.length = dl at *
            go_wp2_with fail
            (with_reducible refine TU.out.mono ?_)
            rintro e w2 ⟨rfl, m, u, kk⟩
            have M2 := Lib.hid (KM.out _ u kk m)
            have B2 := Lib.hid (below_only B1.out kk (fun i hi => by rw [hi]; exact GN.out))
            clear TU KM GN cb m u kk x0 M1 B1
            obtain ⟨b, o, g, c, d, eA, x0, x1, x2, x3, x4, x5, x6, x7, lb, s1, hm, ok, hbl, hbb, hfr⟩ := M2.out.lane hlt
            cases eA
            have cb := M2.out.c2
            have PP := Lib.hid (lanePut_any (some ⟨g, 0, none⟩) c d w2 s1 lb)
            unfold laneV at PP
            clear s1 lb hm ok hbl hbb hfr
            go_wp2_with fail
            (with_reducible refine PP.out.mono ?_)
            rintro e w3 ⟨rfl, hb⟩
            have M3 := Lib.hid (M2.out.keep hb)
            have B3 := Lib.hid (below_step B2.out hb)
            clear PP cb hb x0 x1 x2 x3 x4 x5 x6 x7 M2 B2
            obtain ⟨b, o, g, c, d, eA, x0, x1, x2, x3, x4, x5, x6, x7, lb, s1, hm, ok, hbl, hbb, hfr⟩ := M3.out.lane hlt
            cases eA
            have cb := M3.out.c2
            have TU := Lib.hid (turn_any g d.key.length c w3 ok.1 ok.2.2.2)
            have KM := Lib.hid (fun w' u k m => M3.out.turn (w' := w') hm u k ok.1 m)
            have GN := Lib.hid (M3.out.new _ hm)
            clear lb s1 hm ok hbl hbb hfr x1 x2 x3 x4 x5 x6 x7
            generalize d.key.length = dl at *
            go_wp2_with fail
            (with_reducible refine TU.out.mono ?_)
            rintro e w4 ⟨rfl, m, u, kk⟩
            have M4 := Lib.hid (KM.out _ u kk m)
            have B4 := Lib.hid (below_only B3.out kk (fun i hi => by rw [hi]; exact GN.out))
            clear TU KM GN cb m u kk x0 M3 B3
            go_wp2_with fail
            go_roundg (n3 - (k + 1))
            case measure => omega
            case rel => exact ⟨k + 1, by omega, rfl, rfl, by go_num, M4, B4⟩
          · have i1 : ¬ (k : Int) < (n3 : Int) := by omega
            have cb0 := M0.out.c0
            have cb1 := M0.out.c1
            have cb2 := M0.out.c2
            have cb3 := M0.out.c3
            have TS := Lib.hid (M0.out.turns (by omega) (by omega) (by omega) (by omega))
            go_wp2_with fail
            (with_reducible refine TS.out.mono ?_)
            rintro e w1 ⟨rfl, hb⟩
            have M1 := Lib.hid (M0.out.keep hb)
            have B1 := Lib.hid (below_step B0.out hb)
            clear TS cb0 cb1 cb2 cb3 hb M0 B0
            go_wp2_with fail
            go_loopg [15] n3 (fun gk i wr => ∃ k : Nat, k ≤ n3 ∧ gk = n3 - k ∧ i = .int .i64 (k : Int) ∧ Hid (Mine wr bx W.heap.size A1 A2 A3 A4 a1 a2 a3 a4 n1 n2 n3 n4 it1 it3) ∧ Hid (Below W.heap.size W wr))
            case atStart => exact ⟨0, by omega, rfl, rfl, M1, B1⟩
            case round =>
              clear M1 B1
              obtain ⟨k, hk, rfl, rfl, M0, B0⟩ := hrel
              by_cases hlt : k < n3
              · have i1 : (k : Int) < (n3 : Int) := by omega
                have i0 : (0 : Int) ≤ (k : Int) := by omega
                obtain ⟨b, o, g, c, d, eA, x0, x1, x2, x3, x4, x5, x6, x7, lb, s1, hm, ok, hbl, hbb, hfr⟩ := M0.out.lane hlt
                subst eA
                have cb := M0.out.c2
                have TU := Lib.hid (turn_any g d.key.length c wr ok.1 ok.2.2.2)
                have KM := Lib.hid (fun w' u k m => M0.out.turn (w' := w') hm u k ok.1 m)
                have GN := Lib.hid (M0.out.new _ hm)
                clear lb s1 hm ok hbl hbb hfr x1 x2 x3 x4 x5 x6 x7
                generalize d.key.length = dl at *
                go_wp2_with fail
                (with_reducible refine TU.out.mono ?_)
                rintro e w1 ⟨rfl, m, u, kk⟩
                have M1 := Lib.hid (KM.out _ u kk m)
                have B1 := Lib.hid (below_only B0.out kk (fun i hi => by rw [hi]; exact GN.out))
                clear TU KM GN cb m u kk x0 M0 B0
                obtain ⟨b, o, g, c, d, eA, x0, x1, x2, x3, x4, x5, x6, x7, lb, s1, hm, ok, hbl, hbb, hfr⟩ := M1.out.lane hlt
                cases eA
                have cb := M1.out.c2
                have CU := Lib.hid (M1.out.cur rfl hlt (wrap64 (d.cur + 1)))
                have BC := Lib.hid (below_only B1.out ((Only.refl w1 (fun i => i = b)).setCell (p := ⟨b, o + k * 8 + 2, none⟩) (.inl rfl) (.int .i64 (wrap64 (d.cur + 1)))) (fun i hi => by rw [hi]; exact hbl))
                have fz := hfr (o + k * 8 + 2)
                clear lb s1 hm ok hbl hbb hfr x0 x1 x3 x4 x5 x6 x7 M1 B1
                generalize d.cur = cu at *
                go_wp2_with fail
                go_region
                have M2 := Lib.hid (CU.out.keep (below_drewN (Below.refl _ _) 1))
                have B2 := Lib.hid (below_drewN BC.out 1)
                clear CU BC cb fz x2
                go_wp2_with fail
                go_roundg (n3 - (k + 1))
                case measure => omega
                case rel => exact ⟨k + 1, by omega, rfl, by go_num, M2, B2⟩
              · have i1 : ¬ (k : Int) < (n3 : Int) := by omega
                have cb := M0.out.c2
                generalize wr = wv at *
                go_wp2_with fail
                go_loopg [16] n1 (fun gk i wr => ∃ k : Nat, k ≤ n1 ∧ gk = n1 - k ∧ i = .int .i64 (k : Int) ∧ Hid (Mine wr bx W.heap.size A1 A2 A3 A4 a1 a2 a3 a4 n1 n2 n3 n4 it1 it3) ∧ Hid (Below W.heap.size W wr))
                case atStart => exact ⟨0, by omega, rfl, rfl, M0, B0⟩
                case round =>
                  clear M0 B0
                  obtain ⟨k, hk, rfl, rfl, M0, B0⟩ := hrel
                  by_cases hlt : k < n1
                  · have i1 : (k : Int) < (n1 : Int) := by omega
                    have i0 : (0 : Int) ≤ (k : Int) := by omega
                    obtain ⟨b, o, g, c, d, P, p, eA, x0, x1, x2, s1, s2, hm, ok⟩ := M0.out.peer hlt
                    subst eA
                    have cb := M0.out.c0
                    have TU := Lib.hid (turn_any g d.key.length c wr ok.1 ok.2.2.2)
                    have KM := Lib.hid (fun w' u k m => M0.out.turn (w' := w') hm u k ok.1 m)
                    have GN := Lib.hid (M0.out.new _ hm)
                    clear s1 s2 hm ok x0 x2
                    generalize d.key.length = dl at *
                    go_wp2_with fail
                    (with_reducible refine TU.out.mono ?_)
                    rintro e w1 ⟨rfl, m, u, kk⟩
                    have M1 := Lib.hid (KM.out _ u kk m)
                    have B1 := Lib.hid (below_only B0.out kk (fun i hi => by rw [hi]; exact GN.out))
                    clear TU KM GN cb m u kk x1 M0 B0
                    go_wp2_with fail
                    go_roundg (n1 - (k + 1))
                    case measure => omega
                    case rel => exact ⟨k + 1, by omega, rfl, by go_num, M1, B1⟩
                  · have i1 : ¬ (k : Int) < (n1 : Int) := by omega
                    have cb0 := M0.out.c0
                    have cb1 := M0.out.c1
                    have cb2 := M0.out.c2
                    have cb3 := M0.out.c3
                    have TS := Lib.hid (M0.out.turns (by omega) (by omega) (by omega) (by omega))
                    go_wp2_with fail
                    (with_reducible refine TS.out.mono ?_)
                    rintro e w1 ⟨rfl, hb⟩
                    have M1 := Lib.hid (M0.out.keep hb)
                    have B1 := Lib.hid (below_step B0.out hb)
                    clear TS cb0 cb1 cb2 cb3 hb M0 B0
                    go_wp2_with fail
                    go_loopg [5, 18] n1 (fun gk s5 i wr => ∃ k : Nat, k ≤ n1 ∧ gk = n1 - k ∧ s5 = .bool true ∧ i = .int .i64 (k : Int) ∧ Hid (Mine wr bx W.heap.size A1 A2 A3 A4 a1 a2 a3 a4 n1 n2 n3 n4 it1 it3) ∧ Hid (Below W.heap.size W wr))
                    case atStart => exact ⟨0, by omega, rfl, rfl, rfl, M1, B1⟩
                    case round =>
                      clear M1 B1
                      obtain ⟨k, hk, rfl, rfl, rfl, M0, B0⟩ := hrel
                      by_cases hlt : k < n1
                      · have i1 : (k : Int) < (n1 : Int) := by omega
                        have i0 : (0 : Int) ≤ (k : Int) := by omega
                        obtain ⟨b, o, g, c, d, P, p, eA, x0, x1, x2, s1, s2, hm, ok⟩ := M0.out.peer hlt
                        subst eA
                        have cb := M0.out.c0
                        have TU := Lib.hid (mkd_any g d.key.length c wr ok.1 ok.2.2.2 ok.2.1 ok.2.2.1)
                        clear s1 s2 hm ok x0 x2
                        generalize d.key.length = dl at *
                        go_wp2_with fail
                        (with_reducible refine TU.out.mono ?_)
                        rintro e w1 ⟨q, rfl, rfl⟩
                        have M1 := Lib.hid (M0.out.keep (below_drewN (Below.refl _ _) q))
                        have B1 := Lib.hid (below_drewN B0.out q)
                        clear TU cb x1 M0 B0
                        go_wp2_with fail
                        go_roundg (n1 - (k + 1))
                        case measure => omega
                        case rel => exact ⟨k + 1, by omega, rfl, rfl, by go_num, M1, B1⟩
                      · have i1 : ¬ (k : Int) < (n1 : Int) := by omega
                        have cb := M0.out.c0
                        generalize wr = wv at *
                        go_wp2_with fail
                        go_loopg [5, 19] n3 (fun gk s5 i wr => ∃ k : Nat, k ≤ n3 ∧ gk = n3 - k ∧ s5 = .bool true ∧ i = .int .i64 (k : Int) ∧ Hid (Mine wr bx W.heap.size A1 A2 A3 A4 a1 a2 a3 a4 n1 n2 n3 n4 it1 it3) ∧ Hid (Below W.heap.size W wr))
                        case atStart => exact ⟨0, by omega, rfl, rfl, rfl, M0, B0⟩
                        case round =>
                          clear M0 B0
                          obtain ⟨k, hk, rfl, rfl, rfl, M0, B0⟩ := hrel
                          by_cases hlt : k < n3
                          · have i1 : (k : Int) < (n3 : Int) := by omega
                            have i0 : (0 : Int) ≤ (k : Int) := by omega
                            obtain ⟨b, o, g, c, d, eA, x0, x1, x2, x3, x4, x5, x6, x7, lb, s1, hm, ok, hbl, hbb, hfr⟩ := M0.out.lane hlt
                            subst eA
                            have cb := M0.out.c2
                            have TU := Lib.hid (mkd_any g d.key.length c wr ok.1 ok.2.2.2 ok.2.1 ok.2.2.1)
                            clear lb s1 hm ok hbl hbb hfr x1 x2 x3 x4 x5 x6 x7
                            generalize d.key.length = dl at *
                            go_wp2_with fail
                            (with_reducible refine TU.out.mono ?_)
                            rintro e w1 ⟨q, rfl, rfl⟩
                            have M1 := Lib.hid (M0.out.keep (below_drewN (Below.refl _ _) q))
                            have B1 := Lib.hid (below_drewN B0.out q)
                            clear TU cb x0 M0 B0
                            go_wp2_with fail
                            go_roundg (n3 - (k + 1))
                            case measure => omega
                            case rel => exact ⟨k + 1, by omega, rfl, rfl, by go_num, M1, B1⟩
                          · have i1 : ¬ (k : Int) < (n3 : Int) := by omega
                            have cb := M0.out.c2
                            go_wp2_with fail
                            go_ret
                            exact ⟨by first | rfl | simp, B0.out⟩
end Go.Proofs.YtafdhccdjbfepaaGreat.rowsPlace
