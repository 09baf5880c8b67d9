/- The walks of GetBoots, the program's and the document's, and of SameRow. -/
import Derived.Test.YtgbjhlkjceonpaaGetB
import Derived.Test.YtgbjhlkjceonpaaBoots2
namespace Go.Proofs.Ytgbjhlkjceonpaa.Help
open Go.RowKit Go.Proofs.Ytgbjhlkjceonpaa.K
set_option linter.unusedVariables false

theorem readAs_cases (p : List UInt8 × List UInt8 × Int) (k v : List UInt8) (x none : Int) : ∃ a b, readAs p k v (.int .i64 x) (.int .i64 none) = .tuple #[.int .i64 a, .int .i64 b] := by
  unfold readAs; split
  · exact ⟨_, _, rfl⟩
  · exact ⟨_, _, rfl⟩
set_option maxRecDepth 100000 in
theorem getBoots_any (A B : Option Addr) (c d : Nat) (k v : List UInt8) (w : World) (ha : Bs w A c k) (hb : Bs w B d v) :
    Calls Try.prog 20 #[.agg #[.slice A k.length c, .slice B v.length d]] w (Pure w (readAs (putBoots (asInt (val (takes v 0 8 0).1))) k v (.int .i64 (asInt (val (takes v 0 8 0).1))) (.int .i64 0))) := by
  have H0 := Lib.hid (RdS.start w (.slice A k.length c) (.slice B v.length d))
  have R := Lib.hid (readBoots A B c d k v _ (H0.out.bs ha) (H0.out.bs hb))
  clear ha hb
  obtain ⟨a, b, hab⟩ := readAs_cases (putBoots (asInt (val (takes v 0 8 0).1))) k v (asInt (val (takes v 0 8 0).1)) 0
  rw [hab] at R ⊢
  clear hab
  go_enter Try.func20, Try.ntmps20
  go_wp2_with fail
  refine R.out.mono ?_
  rintro e w1 ⟨rfl, hb1⟩
  have HB := Lib.hid (below_then (H0.out.below) H0.out.below.size hb1)
  clear hb1
  go_wp2_with fail
  exact bodyPost_ret (v := .tuple #[.int .i64 a, .int .i64 b]) (by simp [results, Try.results20, go_sem]) rfl ⟨rfl, HB.out⟩

set_option maxRecDepth 100000 in
theorem sameRow (A B C D : Option Addr) (a b c d : Nat) (k v k' v' : List UInt8) (w : World) (h1 : Bs w A a k) (h2 : Bs w B b v) (h3 : Bs w C c k') (h4 : Bs w D d v') :
    Calls Try.prog 11 #[.agg #[.slice A k.length a, .slice B v.length b], .agg #[.slice C k'.length c, .slice D v'.length d]] w (Pure w (.bool (decide (k = k') && decide (v = v')))) := by
  have hb : Below w.heap.size w ((w.alloc (.cells #[.slice A k.length a, .slice B v.length b] 29)).alloc (.cells #[.slice C k'.length c, .slice D v'.length d] 29)) := below_alloc (below_alloc (Below.refl _ _) _) _
  have HB := Lib.hid hb
  have T1 := Lib.hid (sameBytes A C a c k k' _ (h1.below hb) (h3.below hb))
  have T2 := Lib.hid (fun n => sameBytes B D b d v v' _ ((h2.below hb).drewN n) ((h4.below hb).drewN n))
  clear h1 h2 h3 h4 hb
  generalize decide (k = k') = r1 at *
  generalize decide (v = v') = r2 at *
  go_enter Try.func11, Try.ntmps11
  go_wp2_with fail
  refine T1.out.mono ?_
  rintro e w1 ⟨n1, rfl, rfl⟩
  go_wp2_with fail
  refine (T2.out _).mono ?_
  rintro e w1 ⟨n2, rfl, rfl⟩
  cases r1
  · go_wp2_with fail
    go_ret
    exact ⟨rfl, below_drewN (HB.out) _⟩
  · go_wp2_with fail
    go_ret
    exact ⟨rfl, below_drewN (HB.out) _⟩
end Go.Proofs.Ytgbjhlkjceonpaa.Help
