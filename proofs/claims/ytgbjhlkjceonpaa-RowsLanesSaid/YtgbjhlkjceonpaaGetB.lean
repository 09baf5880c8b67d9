/- The walk of the program's GetBoots. -/
import Derived.Deep.RegionHeld3
import Derived.Test.YtgbjhlkjceonpaaRget
import Derived.Test.YtgbjhlkjceonpaaEq
import Derived.Test.YtgbjhlkjceonpaaBoots
namespace Go.Proofs.Ytgbjhlkjceonpaa.Help
open Go.RowKit Go.Proofs.Ytgbjhlkjceonpaa.K
set_option linter.unusedVariables false

/-- an i64 of a u64 -/
def asInt (x : Nat) : Int := wrap64 (x : Int)
set_option maxRecDepth 100000 in
theorem getBoots1 (kr : Value) (g rb : Nat) (L : List UInt8) (w : World) (h : Rdr w g rb L 0 0) :
    Calls Try.prog 56 #[kr, .pointer (some ⟨g, 0, none⟩)] w (fun e w' => e = .returned (.int .i64 (asInt (val (takes L 0 8 0).1))) ∧ Only w w' (fun k => k = g)) := by
  have HR := Lib.hid h
  clear h
  go_enter Try.func56, Try.ntmps56
  go_wp2_with fail
  refine (get_uint64 g rb 0 L 0 _ HR.out).mono ?_
  rintro e w1 ⟨rfl, h1, h2⟩
  have HO := Lib.hid h2
  clear h1 h2
  generalize hx : val (takes L 0 8 0).1 = x at *
  have HX := Lib.hid hx
  clear hx
  go_wp2_with fail
  go_ret
  have e1 : asInt (val (takes L 0 8 0).1) = wrap64 (x : Int) := by unfold asInt; rw [HX.out]
  exact ⟨by rw [e1]; rfl, HO.out⟩
/-- what read answers: the thing, if its row is the row -/
def readAs (p : List UInt8 × List UInt8 × Int) (k v : List UInt8) (x none : Value) : Value := if p.2.2 = 0 ∧ p.1 = k ∧ p.2.1 = v then .tuple #[x, .int .i64 0] else .tuple #[none, .int .i64 114]
theorem readAs_no {p : List UInt8 × List UInt8 × Int} {k v : List UInt8} {x none : Value} (h : ¬ (p.2.2 = 0 ∧ p.1 = k ∧ p.2.1 = v)) : readAs p k v x none = .tuple #[none, .int .i64 114] := if_neg h
theorem asInt_le (x : Nat) : asInt x ≤ 9223372036854775807 := by unfold asInt wrap64; omega
/-- read's memory: the box of the row -/
structure RdS (w w' : World) (x y : Value) : Prop where
  b : w'.heap[w.heap.size]? = some (.cells #[x, y] 29 (0, 0))
  below : Below w.heap.size w w'
theorem RdS.c0 {w w' : World} {x y : Value} (h : RdS w w' x y) : w'.cell? ⟨w.heap.size, 0, none⟩ = some x := (blk_cell h.b 0).trans rfl
theorem RdS.c1 {w w' : World} {x y : Value} (h : RdS w w' x y) : w'.cell? ⟨w.heap.size, 1, none⟩ = some y := (blk_cell h.b 1).trans rfl
theorem RdS.start (w : World) (x y : Value) : RdS w (w.alloc (.cells #[x, y] 29)) x y := ⟨blk_new _ _, below_alloc (Below.refl _ _) _⟩
theorem RdS.step {w w' w2 : World} {x y : Value} (h : RdS w w' x y) (hb : Below w'.heap.size w' w2) : RdS w w2 x y := ⟨(hb.block _ (blk_lt h.b)).trans h.b, below_step h.below hb⟩
theorem RdS.drewN {w w' : World} {x y : Value} (h : RdS w w' x y) (n : Nat) : RdS w (w'.drewN n) x y := ⟨h.b, below_drewN h.below n⟩
theorem RdS.only {w w' w2 : World} {x y : Value} {T : Nat → Prop} (h : RdS w w' x y) (k : Only w' w2 T) (hT : ∀ i, T i → w.heap.size < i) : RdS w w2 x y :=
  ⟨k.blk h.b (fun h2 => by have := hT _ h2; omega), below_only h.below k (fun i hi => Nat.le_of_lt (hT i hi))⟩
theorem RdS.bs {w w' : World} {x y : Value} (h : RdS w w' x y) {A : Option Addr} {c : Nat} {l : List UInt8} (hs : Bs w A c l) : Bs w' A c l := hs.below h.below
/-- behind the two readers -/
theorem RdS.first {w w' w1 : World} {x y : Value} {L : List UInt8} {e : Ending} (h : RdS w w' x y) (hn : NewR w' L e w1) : ∃ g rb, e = .returned (.pointer (some ⟨g, 0, none⟩)) ∧ RdS w w1 x y ∧ Rdr w1 g rb L 0 0 ∧ w.heap.size < g ∧ w.heap.size < rb := by
  obtain ⟨g, rb, he, hr, hb, hg, hrb⟩ := hn
  have := blk_lt h.b
  exact ⟨g, rb, he, h.step hb, hr, by omega, by omega⟩

set_option maxRecDepth 100000 in
theorem readBoots (A B : Option Addr) (c d : Nat) (k v : List UInt8) (w : World) (ha : Bs w A c k) (hb : Bs w B d v) :
    Calls Try.prog 55 #[.agg #[.slice A k.length c, .slice B v.length d], .func (.func 56) #[] #[], .func (.func 18) #[] #[]] w (Pure w (readAs (putBoots (asInt (val (takes v 0 8 0).1))) k v (.int .i64 (asInt (val (takes v 0 8 0).1))) (.int .i64 0))) := by
  have HA := Lib.hid ha
  have HB := Lib.hid hb
  clear ha hb
  have H0 := Lib.hid (RdS.start w (.slice A k.length c) (.slice B v.length d))
  have s0 := H0.out.c0
  have s1 := H0.out.c1
  have G : Hid (∀ kr g rb w, Rdr w g rb v 0 0 → Calls Try.prog 56 #[kr, .pointer (some ⟨g, 0, none⟩)] w (fun e w' => e = .returned (.int .i64 (asInt (val (takes v 0 8 0).1))) ∧ Only w w' (fun k => k = g))) := Lib.hid (fun kr g rb w h => getBoots1 kr g rb v w h)
  have P : Hid (∀ w, Calls Try.prog 18 #[.int .i64 (asInt (val (takes v 0 8 0).1))] w (RowRet w (putBoots (asInt (val (takes v 0 8 0).1))).1 (putBoots (asInt (val (takes v 0 8 0).1))).2.1 (putBoots (asInt (val (takes v 0 8 0).1))).2.2)) := Lib.hid (fun w => putBoots_any _ w (asInt_le _))
  generalize putBoots (asInt (val (takes v 0 8 0).1)) = p at *
  generalize asInt (val (takes v 0 8 0).1) = x at *
  obtain ⟨k', v', code⟩ := p
  dsimp only at P
  go_enter Try.func55, Try.ntmps55
  go_wp2_with fail
  go_region_held3 (fun w' => w'.cell? ⟨w.heap.size, 0, none⟩ = some (.slice A k.length c) ∧ w'.cell? ⟨w.heap.size, 1, none⟩ = some (.slice B v.length d)) (first | go_keep | exact ⟨d0, d1⟩ | exact ⟨e0, e1⟩ | exact ⟨f0, f1⟩)
    (first
    | (go_at_call 78; refine (newReader B d v _ (H1.out.bs HB.out)).mono ?_; rintro e w2 h1; obtain ⟨g2, r2, rfl, h1, h2, hg2, _⟩ := H1.out.first h1; have e0 := h1.c0; have e1 := h1.c1; have H2 := Lib.hid h1; have R2 := Lib.hid h2; clear h1 h2)
    | (go_at_call 78; refine (newReader A c k _ ((H0.out.drewN _).bs HA.out)).mono ?_; rintro e w1 h1; obtain ⟨g1, r1, rfl, h1, h2, _, _⟩ := (H0.out.drewN _).first h1; have d0 := h1.c0; have d1 := h1.c1; have H1 := Lib.hid h1; clear h1 h2)
    | (go_at_call 56; refine (G.out _ g2 r2 _ R2.out).mono ?_; rintro e w3 ⟨rfl, h1⟩; have h2 := H2.out.only h1 (fun i hi => by rw [hi]; exact hg2); have f0 := h2.c0; have f1 := h2.c1; have H3 := Lib.hid h2; clear h1 h2))
  go_wp2_with fail
  refine (P.out _).mono ?_
  rintro e w4 ⟨v1, v2, rfl, o1, o2, hb4⟩
  obtain ⟨A1, c1, rfl, q1⟩ := o1.bs
  obtain ⟨A2, c2, rfl, q2⟩ := o2.bs
  have h5 := (H3.out.step hb4).step (below_alloc (Below.refl _ _) (.cells #[.slice A1 k'.length c1, .slice A2 v'.length c2] 29))
  have k0 := h5.c0
  have k1 := h5.c1
  have H5 := Lib.hid h5
  have Q1 := Lib.hid (q1.below (below_alloc (Below.refl _ _) (.cells #[.slice A1 k'.length c1, .slice A2 v'.length c2] 29)))
  have Q2 := Lib.hid (q2.below (below_alloc (Below.refl _ _) (.cells #[.slice A1 k'.length c1, .slice A2 v'.length c2] 29)))
  clear o1 o2 hb4 q1 q2 f0 f1 h5 H0 s0 s1 d0 d1 e0 e1 H1 H2 R2 H3 P G
  by_cases hc : code = 0
  · subst hc
    have hm := IntKind.wrap_i64
    clear hm
    go_wp2_with fail
    refine (bytesEqual A1 A c1 c k' k _ Q1.out (H5.out.bs HA.out)).mono ?_
    rintro e w5 ⟨n1, rfl, rfl⟩
    have k2 := (H5.out.drewN n1).c1
    by_cases hk : k' = k
    · have hd : decide (k' = k) = true := decide_eq_true hk
      rw [hd]
      have HK := Lib.hid hk
      clear hk hd
      go_wp2_with fail
      refine (bytesEqual A2 B c2 d v' v _ (Q2.out.drewN n1) ((H5.out.drewN n1).bs HB.out)).mono ?_
      rintro e w5 ⟨n2, rfl, rfl⟩
      by_cases hv : v' = v
      · have hd2 : decide (v' = v) = true := decide_eq_true hv
        rw [hd2]
        have HE : Hid (Value.tuple #[Value.int .i64 x, .int .i64 0] = readAs (k', v', 0) k v (.int .i64 x) (.int .i64 0)) := Lib.hid (if_pos ⟨rfl, HK.out, hv⟩).symm
        clear hv hd2
        go_wp2_with fail
        exact bodyPost_ret (v := Value.tuple #[Value.int .i64 x, .int .i64 0]) (by simp [results, Try.results55, go_sem]) rfl ⟨by rw [← HE.out], below_drewN H5.out.below _⟩
      · have hd2 : decide (v' = v) = false := decide_eq_false hv
        rw [hd2]
        have HE : Hid (Value.tuple #[Value.int .i64 0, .int .i64 114] = readAs (k', v', 0) k v (.int .i64 x) (.int .i64 0)) := Lib.hid (if_neg (fun h => hv h.2.2)).symm
        clear hv hd2
        go_wp2_with fail
        exact bodyPost_ret (v := Value.tuple #[Value.int .i64 0, .int .i64 114]) (by simp [results, Try.results55, go_sem]) rfl ⟨by rw [← HE.out], below_drewN H5.out.below _⟩
    · have hd : decide (k' = k) = false := decide_eq_false hk
      rw [hd]
      have HE : Hid (Value.tuple #[Value.int .i64 0, .int .i64 114] = readAs (k', v', 0) k v (.int .i64 x) (.int .i64 0)) := Lib.hid (if_neg (fun h => hk h.2.1)).symm
      clear hk hd
      go_wp2_with fail
      exact bodyPost_ret (v := Value.tuple #[Value.int .i64 0, .int .i64 114]) (by simp [results, Try.results55, go_sem]) rfl ⟨by rw [← HE.out], below_drewN H5.out.below _⟩
  · have hd : (code != 0) = true := by simpa using hc
    have HE : Hid (Value.tuple #[Value.int .i64 0, .int .i64 114] = readAs (k', v', code) k v (.int .i64 x) (.int .i64 0)) := Lib.hid (if_neg (fun h => hc h.1)).symm
    go_wp2_with fail
    exact bodyPost_ret (v := Value.tuple #[Value.int .i64 0, .int .i64 114]) (by simp [results, Try.results55, go_sem]) rfl ⟨by rw [← HE.out], H5.out.below⟩
end Go.Proofs.Ytgbjhlkjceonpaa.Help
