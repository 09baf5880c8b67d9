/- Contracts of the functions that the laws of this seat reach: part 2 of 8. -/
import Derived.Test.YtnhfeoniiadjfaaC1
import Derived.Maps.OwnSet
import Derived.Maps.RangeWalk
import Derived.Sort.KeysCollected
import Derived.Sort.OwnSorted
import Derived.Shelf.Sort.Plain
import Derived.Shelf.Slices.In.SortNone
import Derived.LoopN
import Derived.Laws.IdiomStrings
import Derived.Carry
import Derived.Lib.BytesEntry
import Derived.Lib.Bytealg
import Derived.Shelf.SlSortCmp.WholeK
import Derived.Shelf.SlSortCmp.NoneTotal
import Derived.Deep.RegionHeld3
/- The walks of the document's Less and twice. -/
namespace Go.Proofs.Ytnhfeoniiadjfaa.Lst
open Go.RowKit Go.Proofs.Ytnhfeoniiadjfaa.K Go.Proofs.Ytnhfeoniiadjfaa.Help Go.Proofs.Ytnhfeoniiadjfaa.Pfx Go.Proofs.Ytnhfeoniiadjfaa.Peer
set_option linter.unusedVariables false

/-- are l's bytes ahead of m's? -/
def lessB : List UInt8 → List UInt8 → Bool
  | [], [] => false
  | [], _ :: _ => true
  | _ :: _, [] => false
  | x :: l, y :: m => if x = y then lessB l m else decide (x < y)
theorem lessB_at {l m : List UInt8} {k : Nat} (h1 : k < l.length) (h2 : k < m.length) : lessB (l.drop k) (m.drop k) = if l.getD k 0 = m.getD k 0 then lessB (l.drop (k + 1)) (m.drop (k + 1)) else decide (l.getD k 0 < m.getD k 0) := by
  rw [List.drop_eq_getElem_cons h1, List.drop_eq_getElem_cons h2, lessB]
  simp [h1, h2]
theorem lessB_end {l m : List UInt8} {k : Nat} (h : k ≥ l.length ∨ k ≥ m.length) (h1 : k ≤ l.length) (h2 : k ≤ m.length) : lessB (l.drop k) (m.drop k) = decide (l.length < m.length) := by
  rcases h with h | h
  · have : k = l.length := by omega
    subst this
    rw [List.drop_length]
    rcases Nat.lt_or_ge l.length m.length with h3 | h3
    · rw [List.drop_eq_getElem_cons h3, lessB]; simp [h3]
    · rw [List.drop_of_length_le h3, lessB]; simp; omega
  · have : k = m.length := by omega
    subst this
    rw [List.drop_length]
    rcases Nat.lt_or_ge m.length l.length with h3 | h3
    · rw [List.drop_eq_getElem_cons h3, lessB]; simp; omega
    · rw [List.drop_of_length_le h3, lessB]; simp; omega
set_option maxRecDepth 100000 in
set_option maxHeartbeats 1000000 in
theorem less_any (A B : Option Addr) (c d : Nat) (l m : List UInt8) (w : World) (ha : Bs w A c l) (hb : Bs w B d m) :
    Calls Try.prog 26 #[.slice A l.length c, .slice B m.length d] w (Quiet (.bool (lessB l m)) w) := by
  have HA := Lib.hid ha
  have HB := Lib.hid hb
  have h1 := ha.max
  have h2 := hb.max
  clear ha hb
  obtain ⟨t, ht⟩ : ∃ t, lessB l m = t := ⟨_, rfl⟩
  rw [ht]
  have HT0 : Hid (lessB (l.drop 0) (m.drop 0) = t) := by rw [List.drop_zero, List.drop_zero]; exact ht
  clear ht
  go_enter Try.func26, Try.ntmps26
  go_wp2_with fail
  go_loopg [5] l.length (fun gk i wr => ∃ k : Nat, k ≤ l.length ∧ k ≤ m.length ∧ gk = l.length - k ∧ i = .int .i64 (k : Int) ∧ Hid (lessB (l.drop k) (m.drop k) = t) ∧ ∃ q, wr = w.drewN q)
  case atStart => exact ⟨0, by omega, by omega, rfl, rfl, HT0, 0, rfl⟩
  case round =>
    obtain ⟨k, hk, hk2, rfl, rfl, HT, q, rfl⟩ := hrel
    by_cases hlt : k < l.length
    · have i1 : (k : Int) < (l.length : Int) := by omega
      by_cases hlm : k < m.length
      · have i2 : (k : Int) < (m.length : Int) := by omega
        obtain ⟨ad, e1, _, c1⟩ := HA.out.at_ k hlt
        obtain ⟨bd, e2, _, c2⟩ := HB.out.at_ k hlm
        subst e1 e2
        have hs := lessB_at hlt hlm
        by_cases hx : l.getD k 0 = m.getD k 0
        · have hx1 : (((l.getD k 0).toNat : Int) != (m.getD k 0).toNat) = false := by rw [hx]; simp
          have HN : Hid (lessB (l.drop (k + 1)) (m.drop (k + 1)) = t) := by rw [Hid, ← HT.out, hs, if_pos hx]
          clear hx hs
          generalize l.getD k 0 = x at *
          generalize m.getD k 0 = y at *
          go_wp2_with fail
          go_quiet (fail)
          go_wp2_with fail
          go_roundg (l.length - (k + 1))
          case measure => omega
          case rel => exact ⟨k + 1, by omega, by omega, rfl, by go_num, HN, _, rfl⟩
        · have hx1 : (((l.getD k 0).toNat : Int) != (m.getD k 0).toNat) = true := by
            rw [bne_iff_ne]; intro h; exact hx (UInt8.toNat_inj.1 (by omega))
          have HN : Hid (t = decide (((l.getD k 0).toNat : Int) < (m.getD k 0).toNat)) := by
            rw [Hid, ← HT.out, hs, if_neg hx]
            simp [UInt8.lt_iff_toNat_lt]
          clear hx hs
          generalize l.getD k 0 = x at *
          generalize m.getD k 0 = y at *
          go_wp2_with fail
          go_quiet (fail)
          go_wp2_with fail
          go_quiet (fail)
          go_wp2_with fail
          go_ret
          refine ⟨_, ret_bool ?_, by rw [World.drewN_drewN, World.drewN_drewN]⟩
          rw [HN.out]
          try simp
      · have i2 : ¬ (k : Int) < (m.length : Int) := by omega
        have HN : Hid (t = decide ((l.length : Int) < (m.length : Int))) := by rw [Hid, ← HT.out, lessB_end (.inr (by omega)) hk hk2]; simp
        go_wp2_with fail
        go_ret
        exact ⟨q, by rw [HN.out]; try simp, rfl⟩
    · have i1 : ¬ (k : Int) < (l.length : Int) := by omega
      have HN : Hid (t = decide ((l.length : Int) < (m.length : Int))) := by rw [Hid, ← HT.out, lessB_end (.inl (by omega)) hk hk2]; simp
      go_wp2_with fail
      go_ret
      exact ⟨q, by rw [HN.out]; try simp, rfl⟩
/-- a quiet callee in a quiet region that begins q draws behind w -/
theorem quiet_at {P : Program} {f : FuncId} {args : Array Value} {w : World} {q a : Nat} {v : Value} (h : Calls P f args (w.drewN (q + a)) (Quiet v (w.drewN (q + a)))) : Calls P f args (w.drewN (q + a)) fun e w'' => e = .returned v ∧ ∃ n, w'' = w.drewN (q + n) :=
  h.mono fun e w' ⟨m, h1, h2⟩ => ⟨h1, a + m, by rw [h2, World.drewN_drewN, Nat.add_assoc]⟩
def zR : RowD := ([], [])
open Classical in
/-- have two rows one key? -/
noncomputable def twiceB (l : List RowD) : Bool := decide (∃ i, i < l.length ∧ ∃ j, j < i ∧ (l.getD i zR).1 = (l.getD j zR).1)
theorem getD_get {α : Type} {l : List α} {i : Nat} (z : α) (h : i < l.length) : l[i]? = some (l.getD i z) := by
  rw [List.getD_eq_getElem?_getD, List.getElem?_eq_getElem h]; rfl
end Go.Proofs.Ytnhfeoniiadjfaa.Lst
/- The walks of the document's layPeer and layLane: an element at its place. -/
namespace Go.Proofs.Ytnhfeoniiadjfaa.Lst
open Go.RowKit Go.Proofs.Ytnhfeoniiadjfaa.K Go.Proofs.Ytnhfeoniiadjfaa.Help Go.Proofs.Ytnhfeoniiadjfaa.Pfx Go.Proofs.Ytnhfeoniiadjfaa.Peer
set_option linter.unusedVariables false

theorem lane_key {w : World} {N : Nat → Prop} {A : Option Addr} {n a : Nat} {rest : List Value} {d : LaneD} (h : LaneE.R w N (Value.slice A n a :: rest) d) : Bs w A a d.key ∧ LaneB d := by
  obtain ⟨A', a', e, h1, h2⟩ := h
  injection e with e1 e2
  injection e1 with e3 e4 e5
  subst e3 e5
  exact ⟨h1.1, h2⟩
theorem quiet_at0 {P : Program} {f : FuncId} {args : Array Value} {w : World} {a : Nat} {v : Value} (h : Calls P f args (w.drewN a) (Quiet v (w.drewN a))) : Calls P f args (w.drewN a) fun e w'' => e = .returned v ∧ ∃ n, w'' = w.drewN n :=
  h.mono fun e w' ⟨m, h1, h2⟩ => ⟨h1, a + m, by rw [h2, World.drewN_drewN]⟩
/-- one round: what is laid so far, is p laid? -/
def layF {α : Type} (lt : α → α → Bool) (p : α) (s : List α × Bool) (x : α) : List α × Bool := if !s.2 && lt p x then (s.1 ++ [p, x], true) else (s.1 ++ [x], s.2)
def layG {α : Type} (lt : α → α → Bool) (l : List α) (p : α) : List α := if (l.foldl (layF lt p) ([], false)).2 then (l.foldl (layF lt p) ([], false)).1 else (l.foldl (layF lt p) ([], false)).1 ++ [p]
theorem layF_len {α : Type} (lt : α → α → Bool) (p : α) (l : List α) : ∀ s : List α × Bool, (l.foldl (layF lt p) s).1.length ≤ s.1.length + l.length + 1 ∧ (s.2 = true → (l.foldl (layF lt p) s).1.length = s.1.length + l.length) := by
  induction l with
  | nil => intro s; simp
  | cons x r ih =>
    intro s
    rw [List.foldl_cons]
    have h := ih (layF lt p s x)
    unfold layF at h ⊢
    split at h
    · rename_i hc
      rw [if_pos hc]
      simp only [Bool.and_eq_true, Bool.not_eq_true'] at hc
      have := h.2 rfl
      simp only [List.length_append, List.length_cons, List.length_nil] at this ⊢
      exact ⟨by omega, fun h2 => by rw [h2] at hc; exact absurd hc.1 (by decide)⟩
    · rename_i hc
      rw [if_neg hc]
      simp only [List.length_append, List.length_cons, List.length_nil] at h ⊢
      exact ⟨by omega, fun h2 => by have := h.2 h2; omega⟩
theorem lay_step {α : Type} (lt : α → α → Bool) (p z : α) (l : List α) (k : Nat) (hk : k < l.length) : (l.take (k + 1)).foldl (layF lt p) ([], false) = layF lt p ((l.take k).foldl (layF lt p) ([], false)) (l.getD k z) := by
  rw [List.take_succ_eq_append_getElem hk, List.foldl_append]
  simp [hk]
theorem layF_yes {α : Type} {lt : α → α → Bool} {p x : α} {M : List α} (h : lt p x = true) : layF lt p (M, false) x = (M ++ [p, x], true) := by simp [layF, h]
theorem layF_no {α : Type} {lt : α → α → Bool} {p x : α} {M : List α} {b : Bool} (h : b = true ∨ lt p x = false) : layF lt p (M, b) x = (M ++ [x], b) := by
  rcases h with h | h
  · subst h; simp [layF]
  · simp [layF, h]
/-- new memory that holds such a list -/
def RetL {α : Type} (E : Elem α) (w : World) (l : List α) (e : Ending) (w' : World) : Prop := ∃ A c, e = .returned (.slice A l.length c) ∧ Lst E w' (fun _ => False) A c l ∧ Below w.heap.size w w'
/-- an old element may be appended -/
theorem old_el {α : Type} {E : Elem α} {t : TypeId} {w W W2 : World} {B : Nat} {v : Value} {M : List α} {raw : List Value} {x : α} (h : E.R w (fun _ => False) raw x) (hb : Below w.heap.size w W) (ho : OwnL E t W2 (fun _ => False) B v M) (hB : w.heap.size ≤ B) :
    E.R W (fun k => (fun _ => False) k ∨ v.ownBlock = some k) raw x :=
  E.reno (E.below (E.reno (N' := fun i => w.heap.size ≤ i) h (fun i hi => .inr hi)) hb) (fun i hi => .inl (hi.elim False.elim (fun h => Nat.le_trans hB (ho.base_le h))))

def ltP (a b : PeerD) : Bool := decide (a.link < b.link)
def ltL (a b : LaneD) : Bool := lessB a.key b.key
end Go.Proofs.Ytnhfeoniiadjfaa.Lst
/- The walks of the document's SameAddr, SamePrefix, shares and whole. -/
namespace Go.Proofs.Ytnhfeoniiadjfaa.Lst
open Go.RowKit Go.Proofs.Ytnhfeoniiadjfaa.K Go.Proofs.Ytnhfeoniiadjfaa.Help Go.Proofs.Ytnhfeoniiadjfaa.Pfx Go.Proofs.Ytnhfeoniiadjfaa.Peer
set_option linter.unusedVariables false

/-- w's memory stands as it stood -/
def Since (w W : World) : Prop := Below w.heap.size w W
theorem Since.step {w : World} : ∀ W W' : World, Since w W → Below W.heap.size W W' → Since w W' := fun _ _ h hb => below_step h hb
theorem Since.refl (w : World) : Since w w := Below.refl _ _
theorem Since.drew {w W : World} (h : Below w.heap.size w W) : Since w (W.drewN 1) := below_drewN h 1
instance {w : World} : Nonempty (Cls (Since w)) := ⟨⟨w, Since.refl w⟩⟩
theorem Since.cell {w : World} {b o : Nat} {v : Value} (h : w.cell? ⟨b, o, none⟩ = some v) (hb : b < w.heap.size) : ∀ p : Cls (Since w), p.W.cell? ⟨b, o, none⟩ = some v := fun p => (Below.cell (p := ⟨b, o, none⟩) p.ok hb).trans h
theorem Since.bytes {w : World} {A B : Option Addr} {c d : Nat} {l m : List UInt8} (h1 : Bs w A c l) (h2 : Bs w B d m) : ∀ p : Cls (Since w), Calls Try.prog 15 #[.slice A l.length c, .slice B m.length d] p.W (Pure p.W (.bool (decide (l = m)))) :=
  fun p => (sameBytes A B c d l m p.W (h1.below p.ok) (h2.below p.ok)).mono fun _ _ h => quiet_pure h

def sharesB (a b : List PfxI) : Bool := decide (∃ x, x ∈ a ∧ x ∈ b)
theorem Ps.el {w : World} {B : Option Addr} {b : Nat} {l : List PfxI} (h : Ps w B b l) (i : Nat) (hi : i < l.length) : ∃ bk off, B = some ⟨bk, off, none⟩ ∧ bk < w.heap.size ∧ w.cell? ⟨bk, off + i * 4, none⟩ = some (.int .i64 (l.getD i zP).1)
    ∧ w.cell? ⟨bk, off + i * 4 + 1, none⟩ = some (.int .u64 ((l.getD i zP).2.1 : Int)) ∧ w.cell? ⟨bk, off + i * 4 + 2, none⟩ = some (.int .u64 ((l.getD i zP).2.2.1 : Int)) ∧ w.cell? ⟨bk, off + i * 4 + 3, none⟩ = some (.int .i64 (l.getD i zP).2.2.2) := h.at_ i hi
theorem mem_getD {α : Type} {l : List α} {i : Nat} (z : α) (h : i < l.length) : l.getD i z ∈ l := by
  rw [List.getD_eq_getElem?_getD, List.getElem?_eq_getElem h]; exact List.getElem_mem h
theorem getD_mem {α : Type} {l : List α} {x : α} (z : α) (h : x ∈ l) : ∃ i, i < l.length ∧ l.getD i z = x := by
  obtain ⟨i, hi, rfl⟩ := List.mem_iff_getElem.1 h
  exact ⟨i, hi, by rw [List.getD_eq_getElem?_getD, List.getElem?_eq_getElem hi]; rfl⟩
end Go.Proofs.Ytnhfeoniiadjfaa.Lst
/- The walk of the document's whole. -/
namespace Go.Proofs.Ytnhfeoniiadjfaa.Lst
open Go.RowKit Go.Proofs.Ytnhfeoniiadjfaa.K Go.Proofs.Ytnhfeoniiadjfaa.Help Go.Proofs.Ytnhfeoniiadjfaa.Pfx Go.Proofs.Ytnhfeoniiadjfaa.Peer
set_option linter.unusedVariables false

/-- peer i has a lane -/
def hasLane (ps : List PeerD) (ls : List LaneD) (i : Nat) : Prop := ∃ j, j < ls.length ∧ (ls.getD j zeroLane).key = (ps.getD i zeroPeer).key
/-- peers j and i may stand beside one another -/
def apart (ps : List PeerD) (j i : Nat) : Prop := (ps.getD j zeroPeer).key ≠ (ps.getD i zeroPeer).key ∧ sharesB (ps.getD j zeroPeer).ps (ps.getD i zeroPeer).ps = false
def wholeTo (ps : List PeerD) (ls : List LaneD) (n : Nat) : Prop := ∀ i, i < n → hasLane ps ls i ∧ ∀ j, j < i → apart ps j i
open Classical in
noncomputable def wholeB (ps : List PeerD) (ls : List LaneD) : Bool := decide (ps.length ≤ 16 ∧ ls.length ≤ 32 ∧ wholeTo ps ls ps.length)
theorem whole_no {ps : List PeerD} {ls : List LaneD} (h : ¬ (ps.length ≤ 16 ∧ ls.length ≤ 32 ∧ wholeTo ps ls ps.length)) : wholeB ps ls = false := by unfold wholeB; simpa using h
theorem whole_yes {ps : List PeerD} {ls : List LaneD} (h : ps.length ≤ 16 ∧ ls.length ≤ 32 ∧ wholeTo ps ls ps.length) : wholeB ps ls = true := by unfold wholeB; simpa using h
/-- has one of the first j lanes peer p's key? -/
def laneTo (ps : List PeerD) (ls : List LaneD) (p j : Nat) (b : Bool) : Prop := b = true ↔ ∃ j', j' < j ∧ (ls.getD j' zeroLane).key = (ps.getD p zeroPeer).key
end Go.Proofs.Ytnhfeoniiadjfaa.Lst
/- The walks of SamePeers, SameLanes (the same data) and Rows. -/
namespace Go.Proofs.Ytnhfeoniiadjfaa.Lst
open Go.RowKit Go.Proofs.Ytnhfeoniiadjfaa.K Go.Proofs.Ytnhfeoniiadjfaa.Help Go.Proofs.Ytnhfeoniiadjfaa.Pfx Go.Proofs.Ytnhfeoniiadjfaa.Peer
set_option linter.unusedVariables false

/-- new bytes may be appended to whatever row stood before -/
theorem new_row {w W W2 : World} {v : Value} {A B : Option Addr} {a b : Nat} {x : RowD} {N : Nat → Prop} (h1 : Bs W2 A a x.1) (h2 : Bs W2 B b x.2) (n1 : Nw W A) (n2 : Nw W B) (hv : ∀ k, N k → k < W.heap.size) :
    RowE.R W2 N [.slice A x.1.length a, .slice B x.2.length b] x := ⟨A, a, B, b, rfl, Bs.fresh h1 n1 hv, Bs.fresh h2 n2 hv⟩
end Go.Proofs.Ytnhfeoniiadjfaa.Lst
/- The walk of the document's State. -/
namespace Go.Proofs.Ytnhfeoniiadjfaa.Lst
open Go.RowKit Go.Proofs.Ytnhfeoniiadjfaa.K Go.Proofs.Ytnhfeoniiadjfaa.Help Go.Proofs.Ytnhfeoniiadjfaa.Pfx Go.Proofs.Ytnhfeoniiadjfaa.Peer
set_option linter.unusedVariables false

/-- what GetBoots tells -/
def bootsGet (k v : List UInt8) : Int × Int := if (putBoots (Help.asInt (rdAt v 0 8))).2.2 = 0 ∧ (putBoots (Help.asInt (rdAt v 0 8))).1 = k ∧ (putBoots (Help.asInt (rdAt v 0 8))).2.1 = v then (Help.asInt (rdAt v 0 8), 0) else (0, 114)
theorem readAs_boots (k v : List UInt8) : readAs (putBoots (Help.asInt (rdAt v 0 8))) k v (.int .i64 (Help.asInt (rdAt v 0 8))) (.int .i64 0) = .tuple #[.int .i64 (bootsGet k v).1, .int .i64 (bootsGet k v).2] := by
  unfold readAs bootsGet
  split <;> rfl
abbrev StD := List PeerD × List LaneD × Int × Bool
noncomputable def stepS (s : StD) (r : RowD) : StD :=
  if (peerGet r.1 r.2).2 = 0 then (layG ltP s.1 (peerGet r.1 r.2).1, s.2.1, s.2.2.1, s.2.2.2)
  else if (laneGet r.1 r.2).2 = 0 then (s.1, layG ltL s.2.1 (laneGet r.1 r.2).1, s.2.2.1, s.2.2.2)
  else if (bootsGet r.1 r.2).2 = 0 then (s.1, s.2.1, (bootsGet r.1 r.2).1, s.2.2.2)
  else (s.1, s.2.1, s.2.2.1, false)
noncomputable def foldS (l : List RowD) : StD := l.foldl stepS ([], [], 0, !twiceB l)
abbrev AnsD := List PeerD × List LaneD × Int × Int
/-- what the document's State answers -/
noncomputable def refState (l : List RowD) : AnsD := if ((foldS l).2.2.2 && wholeB (foldS l).1 (foldS l).2.1) = true then ((foldS l).1, (foldS l).2.1, (foldS l).2.2.1, 0) else ([], [], 0, 114)
def RetS (w : World) (r : AnsD) (e : Ending) (w' : World) : Prop :=
  ∃ A a B b, e = .returned (.tuple #[.slice A r.1.length a, .slice B r.2.1.length b, .int .i64 r.2.2.1, .int .i64 r.2.2.2]) ∧ Lst PeerE w' (fun _ => False) A a r.1 ∧ Lst LaneE w' (fun _ => False) B b r.2.1 ∧ Below w.heap.size w w'
theorem layG_len {α : Type} (lt : α → α → Bool) (l : List α) (p : α) : (layG lt l p).length = l.length + 1 := by
  have h := layF_len lt p l ([], false)
  have h2 : (l.foldl (layF lt p) ([], false)).2 = true → (l.foldl (layF lt p) ([], false)).1.length = l.length + 1 := by
    have key : ∀ (l : List α) (s : List α × Bool), s.2 = false → ((l.foldl (layF lt p) s).2 = true → (l.foldl (layF lt p) s).1.length = s.1.length + l.length + 1) ∧ ((l.foldl (layF lt p) s).2 = false → (l.foldl (layF lt p) s).1.length = s.1.length + l.length) := by
      intro l
      induction l with
      | nil => intro s hs; exact ⟨(fun h => by rw [List.foldl_nil, hs] at h; cases h), fun _ => by simp⟩
      | cons x r ih =>
        intro s hs
        rw [List.foldl_cons]
        by_cases hc : lt p x = true
        · have e : layF lt p s x = (s.1 ++ [p, x], true) := by simp [layF, hs, hc]
          rw [e]
          have hl := (layF_len lt p r (s.1 ++ [p, x], true)).2 rfl
          have ht : ∀ (r : List α) (s : List α × Bool), s.2 = true → (r.foldl (layF lt p) s).2 = true := by
            intro r
            induction r with
            | nil => intro s h; exact h
            | cons y r ih2 => intro s h; rw [List.foldl_cons]; exact ih2 _ (by simp [layF, h])
          exact ⟨(fun _ => by rw [hl]; simp; omega), fun h => by rw [ht r _ rfl] at h; cases h⟩
        · have e : layF lt p s x = (s.1 ++ [x], s.2) := by simp [layF, hc]
          rw [e]
          obtain ⟨h1, h2⟩ := ih (s.1 ++ [x], s.2) hs
          exact ⟨(fun h => by rw [h1 h]; simp; omega), fun h => by rw [h2 h]; simp; omega⟩
    intro h
    have := (key l ([], false) rfl).1 h
    simpa using this
  have h3 : (l.foldl (layF lt p) ([], false)).2 = false → (l.foldl (layF lt p) ([], false)).1.length = l.length := by
    have key : ∀ (l : List α) (s : List α × Bool), (l.foldl (layF lt p) s).2 = false → (l.foldl (layF lt p) s).1.length = s.1.length + l.length := by
      intro l
      induction l with
      | nil => intro s _; simp
      | cons x r ih =>
        intro s hf
        rw [List.foldl_cons] at hf ⊢
        have ht : ∀ (r : List α) (s : List α × Bool), s.2 = true → (r.foldl (layF lt p) s).2 = true := by
          intro r
          induction r with
          | nil => intro s h; exact h
          | cons y r ih2 => intro s h; rw [List.foldl_cons]; exact ih2 _ (by simp [layF, h])
        have hx : (layF lt p s x).1 = s.1 ++ [x] := by
          unfold layF
          split
          · rename_i hc
            have : (layF lt p s x).2 = true := by unfold layF; rw [if_pos hc]
            rw [ht r _ this] at hf; cases hf
          · rfl
        rw [ih _ hf, hx]; simp; omega
    intro h
    have := key l ([], false) h
    simpa using this
  unfold layG
  by_cases hb : (l.foldl (layF lt p) ([], false)).2 = true
  · rw [if_pos hb, h2 hb]
  · rw [if_neg hb]
    have := h3 (by simpa using hb)
    simp [this]
theorem foldS_step (l : List RowD) (s : StD) (k : Nat) (hk : k < l.length) : (l.take (k + 1)).foldl stepS s = stepS ((l.take k).foldl stepS s) (l.getD k zR) := by
  rw [List.take_succ_eq_append_getElem hk, List.foldl_append]
  simp [hk]
theorem peer_rr {w : World} {A B : Option Addr} {a b : Nat} {x : PeerD} (h1 : Bs w A a x.key) (h2 : Ps w B b x.ps) : PeerE.R w (fun _ => False) [Value.int .i64 x.link, .slice A x.key.length a, .slice B x.ps.length b] x := ⟨A, a, B, b, rfl, Bs.bsn h1, Ps.psn h2⟩
theorem lane_rr {w : World} {A : Option Addr} {a : Nat} {x : LaneD} (h1 : Bs w A a x.key) (h2 : LaneB x) : LaneE.R w (fun _ => False) [Value.slice A x.key.length a, .int .i64 x.side, .int .i64 x.cur, .int .i64 x.next, .int .u64 (x.sc : Int), .int .u64 (x.ceil : Int), .int .i64 x.sec, .int .i64 x.nano] x := ⟨A, a, rfl, Bs.bsn h1, h2⟩
theorem laneGet_b (k v : List UInt8) : LaneB (laneGet k v).1 := by
  unfold laneGet
  split
  · exact laneRd_b k v
  · exact ⟨by simp [zeroLane], by simp [zeroLane], by simp [zeroLane]⟩
end Go.Proofs.Ytnhfeoniiadjfaa.Lst
/- The walks of the library's Contains and ContainsFunc, as sound asks them, and of sound's two closures. -/
namespace Go.Proofs.Ytnhfeoniiadjfaa.Lst
open Go.RowKit Go.Proofs.Ytnhfeoniiadjfaa.K Go.Proofs.Ytnhfeoniiadjfaa.Help Go.Proofs.Ytnhfeoniiadjfaa.Pfx Go.Proofs.Ytnhfeoniiadjfaa.Peer
set_option linter.unusedVariables false

/-- an index is answered: at least 0 just where b -/
def IdxR (w : World) (b : Bool) (e : Ending) (w' : World) : Prop := ∃ r : Int, e = .returned (.int .i64 r) ∧ decide (0 ≤ r) = b ∧ Below w.heap.size w w'
def pagg (x : PfxI) : Value := .agg #[.int .i64 x.1, .int .u64 (x.2.1 : Int), .int .u64 (x.2.2.1 : Int), .int .i64 x.2.2.2]
end Go.Proofs.Ytnhfeoniiadjfaa.Lst
/- The walk of sound. -/
namespace Go.Proofs.Ytnhfeoniiadjfaa.Lst
open Go.RowKit Go.Proofs.Ytnhfeoniiadjfaa.K Go.Proofs.Ytnhfeoniiadjfaa.Help Go.Proofs.Ytnhfeoniiadjfaa.Pfx Go.Proofs.Ytnhfeoniiadjfaa.Peer
set_option linter.unusedVariables false

/-- where both are false -/
def ImpF (a b : Bool) (P : Prop) : Prop := a = false → b = false → P
def ImpT (a b : Bool) (P : Prop) : Prop := (a = true ∨ b = true) → P
theorem hasLane_iff {ps : List PeerD} {ls : List LaneD} {i : Nat} : hasLane ps ls i ↔ ∃ x, x ∈ ls ∧ x.key = (ps.getD i zeroPeer).key := by
  constructor
  · rintro ⟨j, hj, h⟩; exact ⟨_, mem_getD zeroLane hj, h⟩
  · rintro ⟨x, hx, h⟩
    obtain ⟨j, hj, e⟩ := getD_mem zeroLane hx
    exact ⟨j, hj, by rw [e]; exact h⟩
end Go.Proofs.Ytnhfeoniiadjfaa.Lst
/- A map of rows, keyed by strings. -/
namespace Go.Proofs.Ytnhfeoniiadjfaa.Lst
open Go.RowKit Go.Maps Go.Proofs.Ytnhfeoniiadjfaa.K Go.Proofs.Ytnhfeoniiadjfaa.Help Go.Proofs.Ytnhfeoniiadjfaa.Pfx Go.Proofs.Ytnhfeoniiadjfaa.Peer
set_option linter.unusedVariables false

/-- what is gathered: a key, and its value's slice -/
abbrev GRow := List UInt8 × Value
def RV (v : Value) : Option (DataW Value × List MemPlace) := some (.held v, [])
def putR (D : DataW Value) (r : GRow) : DataW Value := D.put (.string r.1) (.held r.2)
def mapD (rs : List GRow) : DataW Value := rs.foldl putR (.map [])
def hasG (rs : List GRow) (k : List UInt8) : Bool := rs.any (fun r => r.1 == k)
def lookG (rs : List GRow) (k : List UInt8) : Value := match rs.find? (fun r => r.1 == k) with | some r => r.2 | none => .slice none 0 0
theorem mapD_snoc (rs : List GRow) (r : GRow) : mapD (rs ++ [r]) = (mapD rs).put (.string r.1) (.held r.2) := by simp [mapD, putR, List.foldl_append]
theorem fold_is : ∀ (rs : List GRow) (D : DataW Value), IsMap D → IsMap (rs.foldl putR D)
  | [], _, h => h
  | r :: t, D, h => fold_is t (putR D r) (h.put _ _)
theorem mapD_is (rs : List GRow) : IsMap (mapD rs) := fold_is rs _ isMap_empty
theorem fold_has (k : List UInt8) : ∀ (rs : List GRow) (D : DataW Value), IsMap D → has (rs.foldl putR D) (.string k) = (has D (.string k) || hasG rs k)
  | [], D, _ => by simp [hasG]
  | r :: t, D, h => by
    have e0 : IsMap (putR D r) := h.put _ _
    rw [List.foldl_cons, fold_has k t _ e0]
    unfold hasG putR
    rw [List.any_cons]
    by_cases e : r.1 = k
    · subst e
      rw [has_put_same h (k := .string r.1) (by simp [WideAt.IsKeyLit])]
      simp
    · rw [has_put_other (by intro h; injection h with h; exact e h.symm)]
      have : (r.1 == k) = false := by simpa using e
      rw [this, Bool.false_or]
theorem mapD_has (rs : List GRow) (k : List UInt8) : has (mapD rs) (.string k) = hasG rs k := by
  unfold mapD
  rw [fold_has k rs _ isMap_empty]
  rfl
theorem hasG_false {rs : List GRow} {k : List UInt8} : hasG rs k = false ↔ k ∉ rs.map Prod.fst := by
  unfold hasG
  rw [List.any_eq_false]
  simp only [List.mem_map, not_exists, not_and, beq_iff_eq]
theorem hasG_true {rs : List GRow} {k : List UInt8} : hasG rs k = true ↔ k ∈ rs.map Prod.fst := by
  have := hasG_false (rs := rs) (k := k)
  cases h : hasG rs k
  · rw [h] at this; simp at this ⊢; intro x; exact this x
  · rw [h] at this; simp only [Bool.true_eq_false, false_iff, Classical.not_not] at this; simpa using this
theorem fold_at (k : List UInt8) (z : DataW Value) : ∀ (rs : List GRow) (D : DataW Value), IsMap D → (rs.map Prod.fst).Nodup →
    (rs.foldl putR D).atKey (.string k) z = match rs.find? (fun r => r.1 == k) with | some r => .held r.2 | none => D.atKey (.string k) z
  | [], D, _, _ => by simp
  | r :: t, D, h, hn => by
    rw [List.map_cons, List.nodup_cons] at hn
    have e0 : IsMap (putR D r) := h.put _ _
    rw [List.foldl_cons, fold_at k z t _ e0 hn.2, List.find?_cons]
    unfold putR
    by_cases e : r.1 = k
    · subst e
      have hf : t.find? (fun x => x.1 == r.1) = none := by
        rw [List.find?_eq_none]
        intro x hx hk
        exact hn.1 (List.mem_map.2 ⟨x, hx, by simpa using hk⟩)
      rw [hf]
      simp only [beq_self_eq_true]
      rw [atKey_put_same h (k := .string r.1) (by simp [WideAt.IsKeyLit])]
    · have hb : (r.1 == k) = false := by simpa using e
      rw [hb]
      rw [atKey_put_other (by intro h; injection h with h; exact e h.symm)]
theorem mapD_at (rs : List GRow) (k : List UInt8) (hn : (rs.map Prod.fst).Nodup) : (mapD rs).atKey (.string k) (.held (.slice none 0 0)) = .held (lookG rs k) := by
  unfold mapD lookG
  rw [fold_at k _ rs _ isMap_empty hn]
  cases rs.find? (fun r => r.1 == k) <;> rfl
def GMap (w : World) (b : Nat) (rs : List GRow) : Prop := w.ownsMap Try.prog 9 RV b rs.length (mapD rs) ∧ (rs.map Prod.fst).Nodup
theorem K_str : Keyed Try.prog 9 := string_keyed u_str
theorem z_bytes (w : World) : (zeroValue 27).run Try.prog w = .ok (.slice none 0 0) w := by simp [Try.zeroValue27]
theorem GMap.lt {w : World} {b : Nat} {rs : List GRow} (h : GMap w b rs) : b < w.heap.size := h.1.lt
theorem GMap.keep {w w' : World} {b : Nat} {rs : List GRow} (h : GMap w b rs) (hb : Below w.heap.size w w') : GMap w' b rs := by
  obtain ⟨⟨es, clock, hh, r⟩, hn⟩ := h
  exact ⟨⟨es, clock, (hb.block _ (blk_lt hh)).trans hh, r⟩, hn⟩
theorem GMap.only {w w' : World} {b : Nat} {rs : List GRow} {T : Nat → Prop} (h : GMap w b rs) (k : Only w w' T) (hT : ¬ T b) : GMap w' b rs := by
  obtain ⟨⟨es, clock, hh, r⟩, hn⟩ := h
  exact ⟨⟨es, clock, k.blk hh hT, r⟩, hn⟩
theorem GMap.size_le {w : World} {b : Nat} {rs : List GRow} (h : GMap w b rs) : Maps.size (mapD rs) ≤ rs.length := by
  obtain ⟨⟨es, clock, hh, F, hs, hD⟩, _⟩ := h
  rw [hD]
  simpa [Maps.size, length_sorted] using hs
theorem GMap.keys {w : World} {b : Nat} {rs : List GRow} (h : GMap w b rs) : (rs.map Prod.fst).Perm (strKeys (mapD rs)) := by
  obtain ⟨es, hD, hpw, _⟩ := h.1.entries K_str
  obtain ⟨es', hD', hko⟩ := h.1.keysOf
  rw [hD]
  obtain rfl : es = es' := by rw [hD] at hD'; simpa using hD'
  refine perm_strKeys hpw (fun p hp => by obtain ⟨v, hv⟩ := hko p hp; obtain ⟨x, _, hx, _⟩ := Maps.keyOf_str u_str hv; exact ⟨x, hx⟩) h.2 (fun x => ?_)
  rw [← hD, mapD_has, hasG_true]
section
variable {ops : Array Oper} {rest : List Oper} {o : Oper} {a : Act} {Q : Exit → Act → World → Prop} {w : World} {b : Nat} {rs : List GRow}
end
end Go.Proofs.Ytnhfeoniiadjfaa.Lst
/- The walk of take. -/
namespace Go.Proofs.Ytnhfeoniiadjfaa.Lst
open Go.RowKit Go.Maps Go.Proofs.Ytnhfeoniiadjfaa.K Go.Proofs.Ytnhfeoniiadjfaa.Help Go.Proofs.Ytnhfeoniiadjfaa.Pfx Go.Proofs.Ytnhfeoniiadjfaa.Peer
set_option linter.unusedVariables false

/-- behind a row taken -/
def TookM (w : World) (b : Nat) (rs : List GRow) (k : List UInt8) (v : Value) (e : Ending) (w' : World) : Prop :=
  (hasG rs k = true ∧ e = .returned (.bool false) ∧ GMap w' b rs ∧ Only w w' (fun i => i = b)) ∨ (hasG rs k = false ∧ e = .returned (.bool true) ∧ GMap w' b (rs ++ [(k, v)]) ∧ Only w w' (fun i => i = b))
end Go.Proofs.Ytnhfeoniiadjfaa.Lst
/- The sort of strings, laid at the program; the walk of keys. -/
namespace Go.Proofs.Ytnhfeoniiadjfaa.Lst
open Go.RowKit Go.Maps Go.Sort Go.Shelf Go.Proofs.Ytnhfeoniiadjfaa.K Go.Proofs.Ytnhfeoniiadjfaa.Help Go.Proofs.Ytnhfeoniiadjfaa.Pfx Go.Proofs.Ytnhfeoniiadjfaa.Peer
set_option linter.unusedVariables false

def layS_ren : Go.Shelf.Ren := ⟨fun | 190 => 79 | 125 => 77 | 258 => 92 | 128 => 89 | 129 => 90 | 302 => 98 | 303 => 99 | 304 => 100 | 305 => 101 | 306 => 102 | 307 => 103 | 308 => 104 | 309 => 105 | 310 => 106 | 333 => 108 | 329 => 94 | 330 => 95 | 334 => 109 | 335 => 110 | 336 => 111 | 344 => 112 | n => n, fun | 31 => 109 | 9 => 9 | 3 => 3 | 46 => 125 | 0 => 0 | 51 => 140 | 53 => 121 | 4 => 4 | 183 => 133 | 182 => 132 | 131 => 137 | 5 => 5 | 218 => 144 | 222 => 148 | 228 => 156 | 229 => 157 | n => n, fun | n => n⟩
theorem layS : Go.Proofs.Lays.n190 Try.prog layS_ren := {
  mixed := by kernel_rfl
  f125 := Try.func77.trans (congrArg some (by kernel_rfl))
  f128 := Try.func89.trans (congrArg some (by kernel_rfl))
  f129 := Try.func90.trans (congrArg some (by kernel_rfl))
  f190 := Try.func79.trans (congrArg some (by kernel_rfl))
  f258 := Try.func92.trans (congrArg some (by kernel_rfl))
  f302 := Try.func98.trans (congrArg some (by kernel_rfl))
  f303 := Try.func99.trans (congrArg some (by kernel_rfl))
  f304 := Try.func100.trans (congrArg some (by kernel_rfl))
  f305 := Try.func101.trans (congrArg some (by kernel_rfl))
  f306 := Try.func102.trans (congrArg some (by kernel_rfl))
  f307 := Try.func103.trans (congrArg some (by kernel_rfl))
  f308 := Try.func104.trans (congrArg some (by kernel_rfl))
  f309 := Try.func105.trans (congrArg some (by kernel_rfl))
  f310 := Try.func106.trans (congrArg some (by kernel_rfl))
  f329 := Try.func94.trans (congrArg some (by kernel_rfl))
  f330 := Try.func95.trans (congrArg some (by kernel_rfl))
  f333 := Try.func108.trans (congrArg some (by kernel_rfl))
  f334 := Try.func109.trans (congrArg some (by kernel_rfl))
  f335 := Try.func110.trans (congrArg some (by kernel_rfl))
  f336 := Try.func111.trans (congrArg some (by kernel_rfl))
  f344 := Try.func112.trans (congrArg some (by kernel_rfl))
  t0 := Try.underlying0
  a0 := Try.isAgg0
  z0 := Try.sizeOf0
  v0 := Try.zeroValue0
  t3 := Try.underlying3
  a3 := Try.isAgg3
  z3 := Try.sizeOf3
  v3 := Try.zeroValue3
  t4 := Try.underlying4
  a4 := Try.isAgg4
  z4 := Try.sizeOf4
  v4 := Try.zeroValue4
  t5 := Try.underlying5
  a5 := Try.isAgg5
  z5 := Try.sizeOf5
  v5 := Try.zeroValue5
  t9 := Try.underlying9
  a9 := Try.isAgg9
  z9 := Try.sizeOf9
  v9 := Try.zeroValue9
  t31 := Try.underlying109
  a31 := Try.isAgg109
  z31 := Try.sizeOf109
  v31 := Try.zeroValue109
  t46 := Try.underlying125
  a46 := Try.isAgg125
  z46 := Try.sizeOf125
  v46 := Try.zeroValue125
  t51 := Try.underlying140
  a51 := Try.isAgg140
  z51 := Try.sizeOf140
  v51 := Try.zeroValue140
  t53 := Try.underlying121
  a53 := Try.isAgg121
  z53 := Try.sizeOf121
  v53 := Try.zeroValue121
  t131 := Try.underlying137
  a131 := Try.isAgg137
  z131 := Try.sizeOf137
  v131 := Try.zeroValue137
  t182 := Try.underlying132
  a182 := Try.isAgg132
  z182 := Try.sizeOf132
  v182 := Try.zeroValue132
  t183 := Try.underlying133
  a183 := Try.isAgg133
  z183 := Try.sizeOf133
  v183 := Try.zeroValue133
  t218 := Try.underlying144
  a218 := Try.isAgg144
  z218 := Try.sizeOf144
  v218 := Try.zeroValue144
  t222 := Try.underlying148
  a222 := Try.isAgg148
  z222 := Try.sizeOf148
  v222 := Try.zeroValue148
  t228 := Try.underlying156
  a228 := Try.isAgg156
  z228 := Try.sizeOf156
  v228 := Try.zeroValue156
  t229 := Try.underlying157
  a229 := Try.isAgg157
  z229 := Try.sizeOf157
  v229 := Try.zeroValue157 }
def StrR (w : World) (N : Nat → Prop) (raw : List Value) (x : List UInt8) : Prop := raw = [encStr x]
def StrE : Elem (List UInt8) where
  sz := 1
  R := StrR
  len := fun h => by rw [h]; rfl
  one := fun h u hu => by
    rw [h] at hu
    simp only [List.mem_cons, List.not_mem_nil, or_false] at hu
    subst hu
    rfl
  below := fun h _ => h
  only := fun h _ _ => h
  reno := fun h _ => h
theorem info_str : (Try.prog.info? 9).map (fun i => (i.zero, i.size, i.bytes)) = some (some (.string ⟨#[]⟩), 1, 16) := by kernel_rfl
theorem own_strs {w : World} {B : Nat} {v : Value} {ss : List (List UInt8)} (h : w.ownsRow B 9 1 v ss.length (ss.map encStr)) (hm : ss.length ≤ 1000000000000) : OwnL StrE 9 w (fun _ => False) B v ss := by
  refine ⟨ss.map (fun x => [encStr x]), by simp, ?_, hm, fun i x raw hx hr => ?_⟩
  · have : (ss.map (fun x => [encStr x])).flatten = ss.map encStr := by
      clear h hm
      induction ss with
      | nil => rfl
      | cons a t ih => simp [ih]
    rw [this]
    exact h
  · rw [List.getElem?_map, hx] at hr
    simp at hr
    exact hr.symm
/-- the keys in order -/
def keysOf (rs : List GRow) : List (List UInt8) := (rs.map Prod.fst).mergeSort (fun x y => decide (x ≤ y))
end Go.Proofs.Ytnhfeoniiadjfaa.Lst
/- What the program's State answers, plain; what has been gathered; []byte(s). -/
namespace Go.Proofs.Ytnhfeoniiadjfaa.Lst
open Go.RowKit Go.Proofs.Ytnhfeoniiadjfaa.K Go.Proofs.Ytnhfeoniiadjfaa.Help Go.Proofs.Ytnhfeoniiadjfaa.Pfx Go.Proofs.Ytnhfeoniiadjfaa.Peer
set_option linter.unusedVariables false

abbrev T3 := List PeerD × List LaneD × Int
/-- one row -/
noncomputable def stepO (s : T3) (k v : List UInt8) : Option T3 :=
  match k with
  | [] => none
  | c :: _ =>
    if c = 80 then (if (peerGet k v).2 = 0 then some (s.1 ++ [(peerGet k v).1], s.2.1, s.2.2) else none)
    else if c = 76 then (if (laneGet k v).2 = 0 then some (s.1, s.2.1 ++ [(laneGet k v).1], s.2.2) else none)
    else if c = 66 then (if (bootsGet k v).2 = 0 then some (s.1, s.2.1, (bootsGet k v).1) else none)
    else none
def valOf (l : List RowD) (k : List UInt8) : List UInt8 := match l.find? (fun r => r.1 == k) with | some r => r.2 | none => []
noncomputable def stepK (l : List RowD) (s : Option T3) (k : List UInt8) : Option T3 := match s with | none => none | some s => stepO s k (valOf l k)
def keysL (l : List RowD) : List (List UInt8) := (l.map Prod.fst).mergeSort (fun x y => decide (x ≤ y))
noncomputable def foldK (l : List RowD) : Option T3 := (keysL l).foldl (stepK l) (some ([], [], 0))
noncomputable def ansK (o : Option T3) : AnsD := match o with | none => ([], [], 0, 114) | some s => if wholeB s.1 s.2.1 = true then (s.1, s.2.1, s.2.2, 0) else ([], [], 0, 114)
open Classical in
noncomputable def progState (l : List RowD) : AnsD := if (l.map Prod.fst).Nodup then ansK (foldK l) else ([], [], 0, 114)
theorem foldK_none (l : List RowD) : ∀ ks : List (List UInt8), ks.foldl (stepK l) none = none
  | [] => rfl
  | k :: t => foldK_none l t
theorem foldK_step (l : List RowD) (ks : List (List UInt8)) (s : Option T3) (j : Nat) (hj : j < ks.length) : (ks.take (j + 1)).foldl (stepK l) s = stepK l ((ks.take j).foldl (stepK l) s) (ks.getD j []) := by
  rw [List.take_succ_eq_append_getElem hj, List.foldl_append]
  simp [hj]
theorem foldK_stop (l : List RowD) (ks : List (List UInt8)) (s : Option T3) (j : Nat) (h : (ks.take j).foldl (stepK l) s = none) : ks.foldl (stepK l) s = none := by
  rw [← List.take_append_drop j ks, List.foldl_append, h, foldK_none]
/-- what has been gathered of l -/
def GOf (w : World) (l : List RowD) (rs : List GRow) : Prop := rs.length = l.length ∧ ∀ (i : Nat) (x : RowD), l[i]? = some x → ∃ B b, rs[i]? = some (x.1, .slice B x.2.length b) ∧ Bs w B b x.2
theorem GOf.nil (w : World) : GOf w [] [] := ⟨rfl, fun i x h => by simp at h⟩
theorem GOf.snoc {w : World} {l : List RowD} {rs : List GRow} (h : GOf w l rs) {x : RowD} {B : Option Addr} {b : Nat} (hb : Bs w B b x.2) : GOf w (l ++ [x]) (rs ++ [(x.1, .slice B x.2.length b)]) := by
  refine ⟨by simp [h.1], fun i y hy => ?_⟩
  by_cases hi : i < l.length
  · rw [List.getElem?_append_left hi] at hy
    obtain ⟨B', b', e, s⟩ := h.2 i y hy
    exact ⟨B', b', by rw [List.getElem?_append_left (by rw [h.1]; exact hi)]; exact e, s⟩
  · have e1 : i = l.length := by
      have := (List.getElem?_eq_some_iff.1 hy).1
      simp at this
      omega
    subst e1
    rw [List.getElem?_append_right (by omega), Nat.sub_self] at hy
    simp at hy
    subst hy
    exact ⟨B, b, by rw [← h.1]; simp, hb⟩
theorem GOf.fst {w : World} {l : List RowD} {rs : List GRow} (h : GOf w l rs) : rs.map Prod.fst = l.map Prod.fst := by
  apply List.ext_getElem?
  intro i
  rw [List.getElem?_map, List.getElem?_map]
  by_cases hi : i < l.length
  · obtain ⟨B, b, e, _⟩ := h.2 i l[i] (List.getElem?_eq_getElem hi)
    rw [e, List.getElem?_eq_getElem hi]
    rfl
  · have e1 : l[i]? = none := List.getElem?_eq_none (by omega)
    have e2 : rs[i]? = none := List.getElem?_eq_none (by rw [h.1]; omega)
    rw [e1, e2]; rfl
theorem find_pair {w : World} (k : List UInt8) : ∀ (l : List RowD) (rs : List GRow), GOf w l rs → k ∈ l.map Prod.fst → ∃ B b, lookG rs k = .slice B (valOf l k).length b ∧ Bs w B b (valOf l k)
  | [], rs, h, hk => by simp at hk
  | x :: t, rs, h, hk => by
    obtain ⟨B, b, e, s⟩ := h.2 0 x (by simp)
    match rs, h, e with
    | r :: rt, h, e =>
      simp at e
      subst e
      have ht : GOf w t rt := ⟨by have := h.1; simpa using this, fun i y hy => by simpa using h.2 (i + 1) y (by simpa using hy)⟩
      by_cases hx : x.1 = k
      · refine ⟨B, b, ?_, ?_⟩
        · simp [lookG, valOf, hx]
        · simpa [valOf, hx] using s
      · have hk2 : k ∈ t.map Prod.fst := by
          rw [List.map_cons, List.mem_cons] at hk
          exact hk.resolve_left (fun e => hx e.symm)
        obtain ⟨B', b', e', s'⟩ := find_pair k t rt ht hk2
        have hb : (x.1 == k) = false := by simpa using hx
        refine ⟨B', b', ?_, ?_⟩
        · unfold lookG valOf at e' ⊢
          rw [List.find?_cons, List.find?_cons, hb]
          exact e'
        · unfold valOf at s' ⊢
          rw [List.find?_cons, hb]
          exact s'
/-- []byte(s) -/
theorem bytes_of (w : World) (k : List UInt8) (hk : k.length ≤ 140737488355328) : ∃ cap w1, (convert 9 27 (.string ⟨k.toArray⟩)).run Try.prog w = .ok (.slice (some ⟨w.heap.size, 0, none⟩) k.length cap) w1
    ∧ Bs w1 (some ⟨w.heap.size, 0, none⟩) cap k ∧ Below w.heap.size w w1 := by
  have hrun := run_bytes_of_string (P := Try.prog) w 9 27 5 ⟨k.toArray⟩ u_str u_slice8 u_u8
  have hge := grownCap_ge w (ByteArray.size ⟨k.toArray⟩) 0 5
  have hsz : ByteArray.size ⟨k.toArray⟩ = k.length := by simp [ByteArray.size]
  generalize grownCap w (ByteArray.size ⟨k.toArray⟩) 0 5 = cap at *
  have hb : (w.drew.alloc (.cells (bytesRow ⟨k.toArray⟩ cap) 5 ((bytesRow ⟨k.toArray⟩ cap).size, (bytesRow ⟨k.toArray⟩ cap).size + 1))).heap[w.heap.size]? = some (.cells (bytesRow ⟨k.toArray⟩ cap) 5 ((bytesRow ⟨k.toArray⟩ cap).size, (bytesRow ⟨k.toArray⟩ cap).size + 1)) := by
    show (w.heap.push _)[w.heap.size]? = _
    simp
  have hB : Below w.heap.size w (w.drew.alloc (.cells (bytesRow ⟨k.toArray⟩ cap) 5 ((bytesRow ⟨k.toArray⟩ cap).size, (bytesRow ⟨k.toArray⟩ cap).size + 1))) := below_alloc (below_drewN (Below.refl _ _) 1) _
  rw [hsz] at hrun hge
  refine ⟨cap, _, hrun, ⟨hge, hk, fun i hi => ⟨_, rfl, blk_lt hb, ?_⟩⟩, hB⟩
  rw [addr_add_plain]
  refine (blk_cell hb i).trans ?_
  unfold bytesRow
  rw [Array.getElem?_append_left (by simpa using hi)]
  simp [hi]
end Go.Proofs.Ytnhfeoniiadjfaa.Lst
/- find; sets as elements of lists. -/
namespace Go.Proofs.Ytnhfeoniiadjfaa.Lst
open Go.RowKit Go.Proofs.Ytnhfeoniiadjfaa.K Go.Proofs.Ytnhfeoniiadjfaa.Help Go.Proofs.Ytnhfeoniiadjfaa.Pfx Go.Proofs.Ytnhfeoniiadjfaa.Peer
set_option linter.unusedVariables false

def hasK (l : List RowD) (k : List UInt8) : Bool := l.any (fun r => r.1 == k)
def RetF (w : World) (l : List RowD) (k : List UInt8) (e : Ending) (w' : World) : Prop := ∃ B b, e = .returned (.tuple #[.slice B (valOf l k).length b, .bool (hasK l k)]) ∧ Bs w' B b (valOf l k) ∧ Below w.heap.size w w'
theorem find_hit {l : List RowD} {k : List UInt8} {i : Nat} (hi : i < l.length) (h0 : ∀ j, j < i → (l.getD j zR).1 ≠ k) (h1 : (l.getD i zR).1 = k) : hasK l k = true ∧ valOf l k = (l.getD i zR).2 := by
  induction l generalizing i with
  | nil => simp at hi
  | cons r t ih =>
    match i with
    | 0 =>
      simp at h1 ⊢
      exact ⟨by simp [hasK, h1], by simp [valOf, h1]⟩
    | i + 1 =>
      have hr : (r.1 == k) = false := by simpa using h0 0 (by omega)
      have h2 := ih (i := i) (by simpa using hi) (fun j hj => by have := h0 (j + 1) (by omega); simpa using this) (by simpa using h1)
      refine ⟨by unfold hasK at h2 ⊢; rw [List.any_cons, h2.1]; simp, ?_⟩
      unfold valOf at h2 ⊢
      rw [List.find?_cons, hr]
      simpa using h2.2
theorem find_miss {l : List RowD} {k : List UInt8} (h0 : ∀ j, j < l.length → (l.getD j zR).1 ≠ k) : hasK l k = false ∧ valOf l k = [] := by
  induction l with
  | nil => exact ⟨rfl, rfl⟩
  | cons r t ih =>
    have hr : (r.1 == k) = false := by simpa using h0 0 (by simp)
    have h2 := ih (fun j hj => by have := h0 (j + 1) (by simpa using hj); simpa using this)
    refine ⟨by unfold hasK at h2 ⊢; rw [List.any_cons, h2.1, hr]; rfl, ?_⟩
    unfold valOf at h2 ⊢
    rw [List.find?_cons, hr]
    exact h2.2
abbrev SetD := List UInt8 × List UInt8 × Bool
def SetR (w : World) (N : Nat → Prop) (raw : List Value) (x : SetD) : Prop := ∃ A a B b, raw = [.slice A x.1.length a, .slice B x.2.1.length b, .bool x.2.2] ∧ BsN w N A a x.1 ∧ BsN w N B b x.2.1
def SetE : Elem SetD where
  sz := 3
  R := SetR
  len := fun ⟨A, a, B, b, h, _⟩ => by rw [h]; rfl
  one := fun ⟨A, a, B, b, h, _⟩ u hu => by
    rw [h] at hu
    simp only [List.mem_cons, List.not_mem_nil, or_false] at hu
    rcases hu with rfl | rfl | rfl <;> rfl
  below := fun ⟨A, a, B, b, h, h1, h2⟩ hb => ⟨A, a, B, b, h, h1.below hb, h2.below hb⟩
  only := fun ⟨A, a, B, b, h, h1, h2⟩ k hT => ⟨A, a, B, b, h, h1.only k hT, h2.only k hT⟩
  reno := fun ⟨A, a, B, b, h, h1, h2⟩ hN => ⟨A, a, B, b, h, h1.reno hN, h2.reno hN⟩
theorem info_set : (Try.prog.info? 37).map (fun i => (i.zero, i.size, i.bytes)) = some (some (.agg #[.slice none 0 0, .slice none 0 0, .bool false]), 3, 56) := by kernel_rfl
end Go.Proofs.Ytnhfeoniiadjfaa.Lst
/- The walk of the document's laySet. -/
namespace Go.Proofs.Ytnhfeoniiadjfaa.Lst
open Go.RowKit Go.Proofs.Ytnhfeoniiadjfaa.K Go.Proofs.Ytnhfeoniiadjfaa.Help Go.Proofs.Ytnhfeoniiadjfaa.Pfx Go.Proofs.Ytnhfeoniiadjfaa.Peer
set_option linter.unusedVariables false

theorem set_key {w : World} {N : Nat → Prop} {A : Option Addr} {n a : Nat} {rest : List Value} {d : SetD} (h : SetE.R w N (Value.slice A n a :: rest) d) : Bs w A a d.1 := by
  obtain ⟨A', a', B', b', e, h1, h2⟩ := h
  injection e with e1 e2
  injection e1 with e3 e4 e5
  subst e3 e5
  exact h1.1
def ltS (a b : SetD) : Bool := lessB a.1 b.1
def zeroSet : SetD := ([], [], false)
end Go.Proofs.Ytnhfeoniiadjfaa.Lst
/- The walk of the document's rowsOf. -/
namespace Go.Proofs.Ytnhfeoniiadjfaa.Lst
open Go.RowKit Go.Proofs.Ytnhfeoniiadjfaa.K Go.Proofs.Ytnhfeoniiadjfaa.Help Go.Proofs.Ytnhfeoniiadjfaa.Pfx Go.Proofs.Ytnhfeoniiadjfaa.Peer
set_option linter.unusedVariables false

noncomputable def rowP (p : PeerD) : RowD := ((putPeer p).1, (putPeer p).2.1)
noncomputable def okP (p : PeerD) : Bool := (putPeer p).2.2 == 0
def rowL (d : LaneD) : RowD := ((putLane d).1, (putLane d).2.1)
def okL (d : LaneD) : Bool := (putLane d).2.2 == 0
noncomputable def rowsPL (ps : List PeerD) (ls : List LaneD) : List RowD := ps.map rowP ++ ls.map rowL
noncomputable def goodPL (ps : List PeerD) (ls : List LaneD) : Bool := ps.all okP && ls.all okL
def RetR (w : World) (l : List RowD) (b : Bool) (e : Ending) (w' : World) : Prop := ∃ A c, e = .returned (.tuple #[.slice A l.length c, .bool b]) ∧ Lst RowE w' (fun _ => False) A c l ∧ Below w.heap.size w w'
theorem take_map {α β : Type} (f : α → β) (z : α) (l : List α) (k : Nat) (hk : k < l.length) : (l.take (k + 1)).map f = (l.take k).map f ++ [f (l.getD k z)] := by
  have e : l.getD k z = l[k] := by simp [hk]
  rw [List.take_succ_eq_append_getElem hk, List.map_append, e]; rfl
theorem take_all {α : Type} (f : α → Bool) (z : α) (l : List α) (k : Nat) (hk : k < l.length) : (l.take (k + 1)).all f = ((l.take k).all f && f (l.getD k z)) := by
  have e : l.getD k z = l[k] := by simp [hk]
  rw [List.take_succ_eq_append_getElem hk, List.all_append, e, List.all_cons, List.all_nil, Bool.and_true]
theorem blk_two (w : World) (q1 q2 : Obj) : ((w.alloc q1).alloc q2).heap[w.heap.size + 1]? = some q2 := by
  have := blk_new (w.alloc q1) q2
  simpa using this
theorem fresh_row {W W2 : World} {A B : Option Addr} {a b : Nat} {k v : List UInt8} {N : Nat → Prop} (h1 : Bs W2 A a k) (h2 : Bs W2 B b v) (n1 : Nw W A) (n2 : Nw W B) (hv : ∀ i, N i → i < W.heap.size) :
    RowE.R W2 N [Value.slice A k.length a, .slice B v.length b] (k, v) := ⟨A, a, B, b, rfl, Bs.fresh h1 n1 hv, Bs.fresh h2 n2 hv⟩
end Go.Proofs.Ytnhfeoniiadjfaa.Lst
/- The program's State answers what the document's State answers. -/
namespace Go.Proofs.Ytnhfeoniiadjfaa.Lst
open Go.RowKit Go.Proofs.Ytnhfeoniiadjfaa.K Go.Proofs.Ytnhfeoniiadjfaa.Help Go.Proofs.Ytnhfeoniiadjfaa.Pfx Go.Proofs.Ytnhfeoniiadjfaa.Peer
set_option linter.unusedVariables false

/-! the three kinds -/
noncomputable def gP (r : RowD) : Option PeerD := if (peerGet r.1 r.2).2 = 0 then some (peerGet r.1 r.2).1 else none
noncomputable def gL (r : RowD) : Option LaneD := if (laneGet r.1 r.2).2 = 0 then some (laneGet r.1 r.2).1 else none
noncomputable def gB (r : RowD) : Option Int := if (bootsGet r.1 r.2).2 = 0 then some (bootsGet r.1 r.2).1 else none
theorem peerGet_key {k v : List UInt8} (h : (peerGet k v).2 = 0) : k = 80 :: be 4 (peerGet k v).1.link.toNat ∧ 1 ≤ (peerGet k v).1.link ∧ (peerGet k v).1.link ≤ 4294967295 := by
  unfold peerGet at h ⊢
  split at h
  · rename_i hc
    rw [if_pos hc]
    by_cases ho : peerOk (peerRd k v)
    · rw [putPeer_ok ho] at hc
      exact ⟨hc.2.1.symm, ho.1.1, ho.1.2.1⟩
    · rw [putPeer_bad ho] at hc
      cases hc.1
  · cases h
theorem laneGet_key {k v : List UInt8} (h : (laneGet k v).2 = 0) : k = 76 :: (laneGet k v).1.key := by
  unfold laneGet at h ⊢
  split at h
  · rename_i hc
    rw [if_pos hc]
    by_cases ho : laneOk (laneRd k v)
    · rw [putLane_yes ho] at hc
      exact hc.2.1.symm
    · rw [putLane_no ho] at hc
      cases hc.1
  · cases h
theorem bootsGet_key {k v : List UInt8} (h : (bootsGet k v).2 = 0) : k = [66] := by
  unfold bootsGet at h
  split at h
  · rename_i hc
    unfold putBoots at hc
    split at hc
    · cases hc.1
    · exact hc.2.1.symm
  · cases h
theorem gP_key {r : RowD} {x : PeerD} (h : gP r = some x) : r.1 = 80 :: be 4 x.link.toNat ∧ 1 ≤ x.link ∧ x.link ≤ 4294967295 := by
  unfold gP at h
  split at h
  · rename_i hc
    injection h with h
    subst h
    exact peerGet_key hc
  · cases h
theorem gL_key {r : RowD} {x : LaneD} (h : gL r = some x) : r.1 = 76 :: x.key := by
  unfold gL at h
  split at h
  · rename_i hc
    injection h with h
    subst h
    exact laneGet_key hc
  · cases h
theorem gB_key {r : RowD} {x : Int} (h : gB r = some x) : r.1 = [66] := by
  unfold gB at h
  split at h
  · rename_i hc
    exact bootsGet_key hc
  · cases h
theorem gP_only {r : RowD} {x : PeerD} (h : gP r = some x) : gL r = none ∧ gB r = none := by
  have hk := (gP_key h).1
  constructor
  · cases e : gL r with
    | none => rfl
    | some y => rw [gL_key e] at hk; injection hk with hk; cases hk
  · cases e : gB r with
    | none => rfl
    | some y => rw [gB_key e] at hk; injection hk with hk; cases hk
theorem gL_only {r : RowD} {x : LaneD} (h : gL r = some x) : gB r = none := by
  have hk := gL_key h
  cases e : gB r with
  | none => rfl
  | some y => rw [gB_key e] at hk; injection hk with hk; cases hk
noncomputable def okR (r : RowD) : Bool := (gP r).isSome || (gL r).isSome || (gB r).isSome
/-- the document's fold -/
theorem fold_ref : ∀ (l : List RowD) (s : StD), l.foldl stepS s = ((l.filterMap gP).foldl (layG ltP) s.1, (l.filterMap gL).foldl (layG ltL) s.2.1, (l.filterMap gB).foldl (fun _ v => v) s.2.2.1, s.2.2.2 && l.all okR)
  | [], s => by simp
  | r :: t, s => by
    rw [List.foldl_cons, fold_ref t]
    cases hp : gP r with
    | some x =>
      have hs : stepS s r = (layG ltP s.1 x, s.2.1, s.2.2.1, s.2.2.2) := by
        unfold gP at hp
        split at hp
        · rename_i hc; injection hp with hp; subst hp; unfold stepS; rw [if_pos hc]
        · cases hp
      rw [hs]
      simp [hp, gP_only hp, okR]
    | none =>
      have hp0 : ¬ (peerGet r.1 r.2).2 = 0 := by intro hc; unfold gP at hp; rw [if_pos hc] at hp; cases hp
      cases hq : gL r with
      | some x =>
        have hs : stepS s r = (s.1, layG ltL s.2.1 x, s.2.2.1, s.2.2.2) := by
          unfold gL at hq
          split at hq
          · rename_i hc; injection hq with hq; subst hq; unfold stepS; rw [if_neg hp0, if_pos hc]
          · cases hq
        rw [hs]
        simp [hp, hq, gL_only hq, okR]
      | none =>
        have hq0 : ¬ (laneGet r.1 r.2).2 = 0 := by intro hc; unfold gL at hq; rw [if_pos hc] at hq; cases hq
        cases hb : gB r with
        | some x =>
          have hs : stepS s r = (s.1, s.2.1, x, s.2.2.2) := by
            unfold gB at hb
            split at hb
            · rename_i hc; injection hb with hb; subst hb; unfold stepS; rw [if_neg hp0, if_neg hq0, if_pos hc]
            · cases hb
          rw [hs]
          simp [hp, hq, hb, okR]
        | none =>
          have hb0 : ¬ (bootsGet r.1 r.2).2 = 0 := by intro hc; unfold gB at hb; rw [if_pos hc] at hb; cases hb
          have hs : stepS s r = (s.1, s.2.1, s.2.2.1, false) := by unfold stepS; rw [if_neg hp0, if_neg hq0, if_neg hb0]
          rw [hs]
          simp [hp, hq, hb, okR]
theorem gP_head {c : UInt8} {t v : List UInt8} (hc : c ≠ 80) : gP (c :: t, v) = none := by
  cases e : gP (c :: t, v) with
  | none => rfl
  | some x =>
    have h := (gP_key e).1
    have h2 : c = 80 := (List.cons.inj h).1
    exact absurd h2 hc
theorem gL_head {c : UInt8} {t v : List UInt8} (hc : c ≠ 76) : gL (c :: t, v) = none := by
  cases e : gL (c :: t, v) with
  | none => rfl
  | some x =>
    have h := gL_key e
    have h2 : c = 76 := (List.cons.inj h).1
    exact absurd h2 hc
theorem gB_head {c : UInt8} {t v : List UInt8} (hc : c ≠ 66) : gB (c :: t, v) = none := by
  cases e : gB (c :: t, v) with
  | none => rfl
  | some x =>
    have h := gB_key e
    have h2 : c = 66 := (List.cons.inj h).1
    exact absurd h2 hc
theorem g_nil (v : List UInt8) : gP ([], v) = none ∧ gL ([], v) = none ∧ gB ([], v) = none := by
  refine ⟨?_, ?_, ?_⟩
  · cases e : gP ([], v) with
    | none => rfl
    | some x => have h := (gP_key e).1; exact absurd h (by simp)
  · cases e : gL ([], v) with
    | none => rfl
    | some x => have h := gL_key e; exact absurd h (by simp)
  · cases e : gB ([], v) with
    | none => rfl
    | some x => have h := gB_key e; exact absurd h (by simp)
noncomputable def pick (s : T3) (a : Option PeerD) (b : Option LaneD) (c : Option Int) : Option T3 := match a with
    | some x => some (s.1 ++ [x], s.2.1, s.2.2)
    | none => match b with
      | some x => some (s.1, s.2.1 ++ [x], s.2.2)
      | none => match c with
        | some x => some (s.1, s.2.1, x)
        | none => none
theorem stepO_nil (s : T3) (v : List UInt8) : stepO s [] v = none := rfl
theorem stepO_cons (s : T3) (c : UInt8) (t v : List UInt8) : stepO s (c :: t) v = if c = 80 then (if (peerGet (c :: t) v).2 = 0 then some (s.1 ++ [(peerGet (c :: t) v).1], s.2.1, s.2.2) else none)
    else if c = 76 then (if (laneGet (c :: t) v).2 = 0 then some (s.1, s.2.1 ++ [(laneGet (c :: t) v).1], s.2.2) else none)
    else if c = 66 then (if (bootsGet (c :: t) v).2 = 0 then some (s.1, s.2.1, (bootsGet (c :: t) v).1) else none)
    else none := by
  rfl
/-- the program's step -/
theorem stepO_eq (s : T3) (r : RowD) : stepO s r.1 r.2 = pick s (gP r) (gL r) (gB r) := by
  obtain ⟨k, v⟩ := r
  rcases k with _ | ⟨c, t⟩
  · obtain ⟨h1, h2, h3⟩ := g_nil v
    rw [h1, h2, h3]
    exact stepO_nil s v
  · show stepO s (c :: t) v = _
    rw [stepO_cons]
    by_cases h80 : c = 80
    · rw [if_pos h80, gL_head (by rw [h80]; decide), gB_head (by rw [h80]; decide)]
      unfold gP
      generalize hg : peerGet (c :: t) v = pg
      by_cases hc : pg.2 = 0
      · rw [if_pos hc]
        rw [if_pos hc]
        rfl
      · rw [if_neg hc]
        rw [if_neg hc]
        rfl
    · rw [if_neg h80, gP_head h80]
      by_cases h76 : c = 76
      · rw [if_pos h76, gB_head (by rw [h76]; decide)]
        unfold gL
        generalize hg : laneGet (c :: t) v = pg
        by_cases hc : pg.2 = 0
        · rw [if_pos hc]
          rw [if_pos hc]
          rfl
        · rw [if_neg hc]
          rw [if_neg hc]
          rfl
      · rw [if_neg h76, gL_head h76]
        by_cases h66 : c = 66
        · rw [if_pos h66]
          unfold gB
          generalize hg : bootsGet (c :: t) v = pg
          by_cases hc : pg.2 = 0
          · rw [if_pos hc]
            rw [if_pos hc]
            rfl
          · rw [if_neg hc]
            rw [if_neg hc]
            rfl
        · rw [if_neg h66, gB_head h66]
          rfl
noncomputable def stepR (s : Option T3) (r : RowD) : Option T3 := match s with | none => none | some s => stepO s r.1 r.2
theorem stepR_none : ∀ l : List RowD, l.foldl stepR none = none
  | [] => rfl
  | r :: t => stepR_none t
theorem fold_prog : ∀ (l : List RowD) (s : T3), l.foldl stepR (some s) = if l.all okR = true then some (s.1 ++ l.filterMap gP, s.2.1 ++ l.filterMap gL, (l.filterMap gB).foldl (fun _ v => v) s.2.2) else none
  | [], s => by simp
  | r :: t, s => by
    rw [List.foldl_cons]
    have hs : stepR (some s) r = stepO s r.1 r.2 := rfl
    rw [hs, stepO_eq, List.all_cons]
    cases hp : gP r with
    | some x =>
      have ho : okR r = true := by unfold okR; rw [hp]; rfl
      unfold pick
      dsimp only
      rw [fold_prog t, ho, Bool.true_and]
      simp [hp, gP_only hp]
    | none =>
      cases hq : gL r with
      | some x =>
        have ho : okR r = true := by unfold okR; rw [hp, hq]; rfl
        unfold pick
        dsimp only
        rw [fold_prog t, ho, Bool.true_and]
        simp [hp, hq, gL_only hq]
      | none =>
        cases hb : gB r with
        | some x =>
          have ho : okR r = true := by unfold okR; rw [hp, hq, hb]; rfl
          unfold pick
          dsimp only
          rw [fold_prog t, ho, Bool.true_and]
          simp [hp, hq, hb]
        | none =>
          have ho : okR r = false := by unfold okR; rw [hp, hq, hb]; rfl
          unfold pick
          dsimp only
          rw [stepR_none, ho]
          simp
/-! insertion -/
def insG {α : Type} (lt : α → α → Bool) (p : α) : List α → List α
  | [] => [p]
  | x :: r => if lt p x then p :: x :: r else x :: insG lt p r
theorem layF_done {α : Type} (lt : α → α → Bool) (p : α) : ∀ (l acc : List α), l.foldl (layF lt p) (acc, true) = (acc ++ l, true)
  | [], acc => by simp
  | x :: r, acc => by
    rw [List.foldl_cons]
    have : layF lt p (acc, true) x = (acc ++ [x], true) := by simp [layF]
    rw [this, layF_done lt p r]
    simp
theorem layF_ins {α : Type} (lt : α → α → Bool) (p : α) : ∀ (l acc : List α), (if (l.foldl (layF lt p) (acc, false)).2 then (l.foldl (layF lt p) (acc, false)).1 else (l.foldl (layF lt p) (acc, false)).1 ++ [p]) = acc ++ insG lt p l
  | [], acc => by simp [insG]
  | x :: r, acc => by
    rw [List.foldl_cons]
    by_cases h : lt p x = true
    · have : layF lt p (acc, false) x = (acc ++ [p, x], true) := by simp [layF, h]
      rw [this, layF_done]
      simp [insG, h]
    · have : layF lt p (acc, false) x = (acc ++ [x], false) := by simp [layF, h]
      rw [this, layF_ins lt p r]
      simp [insG, h]
theorem layG_ins {α : Type} (lt : α → α → Bool) (l : List α) (p : α) : layG lt l p = insG lt p l := by
  have := layF_ins lt p l []
  unfold layG
  simpa using this
section
variable {α : Type} {lt : α → α → Bool}
theorem insG_perm (p : α) : ∀ l : List α, (insG lt p l).Perm (p :: l)
  | [] => by simp [insG]
  | x :: r => by
    unfold insG
    split
    · exact List.Perm.refl _
    · exact ((insG_perm p r).cons x).trans (List.Perm.swap p x r)
theorem insG_sorted (asym : ∀ a b, lt a b = true → lt b a = false) (tr : ∀ a b c, lt b a = false → lt c b = false → lt c a = false) (p : α) : ∀ l : List α, l.Pairwise (fun a b => lt b a = false) → (insG lt p l).Pairwise (fun a b => lt b a = false)
  | [], _ => by simp [insG]
  | x :: r, h => by
    obtain ⟨h1, h2⟩ := List.pairwise_cons.1 h
    unfold insG
    by_cases hp : lt p x = true
    · rw [if_pos hp]
      refine List.pairwise_cons.2 ⟨fun y hy => ?_, h⟩
      rcases List.mem_cons.1 hy with rfl | hy
      · exact asym _ _ hp
      · exact tr _ _ _ (asym _ _ hp) (h1 y hy)
    · rw [if_neg hp]
      refine List.pairwise_cons.2 ⟨fun y hy => ?_, insG_sorted asym tr p r h2⟩
      rcases List.mem_cons.1 ((insG_perm p r).mem_iff.1 hy) with rfl | hy
      · simpa using hp
      · exact h1 y hy
theorem fold_ins (asym : ∀ a b, lt a b = true → lt b a = false) (tr : ∀ a b c, lt b a = false → lt c b = false → lt c a = false) : ∀ (xs l : List α), l.Pairwise (fun a b => lt b a = false) → (xs.foldl (layG lt) l).Pairwise (fun a b => lt b a = false) ∧ (xs.foldl (layG lt) l).Perm (l ++ xs)
  | [], l, h => ⟨h, by simp⟩
  | x :: r, l, h => by
    rw [List.foldl_cons, layG_ins]
    obtain ⟨h1, h2⟩ := fold_ins asym tr r (insG lt x l) (insG_sorted asym tr x l h)
    refine ⟨h1, h2.trans ?_⟩
    exact ((insG_perm x l).append_right r).trans (List.perm_middle.symm)
end
theorem val_acc : ∀ (l : List UInt8) (x : Nat), l.foldl (fun x b => x * 256 + b.toNat) x = x * 256 ^ l.length + val l
  | [], x => by simp [val]
  | b :: t, x => by
    have h : val (b :: t) = t.foldl (fun x b => x * 256 + b.toNat) (0 * 256 + b.toNat) := rfl
    rw [h, List.foldl_cons, val_acc t, val_acc t, List.length_cons, Nat.pow_succ]
    have e : x * 256 * 256 ^ t.length = x * (256 ^ t.length * 256) := by rw [Nat.mul_assoc, Nat.mul_comm 256]
    rw [Nat.add_mul, e, Nat.zero_mul, Nat.zero_add, Nat.add_assoc]
theorem val_cons (x : UInt8) (l : List UInt8) : val (x :: l) = x.toNat * 256 ^ l.length + val l := by
  have h : val (x :: l) = l.foldl (fun x b => x * 256 + b.toNat) (0 * 256 + x.toNat) := rfl
  rw [h, val_acc]
  simp
theorem val_mono : ∀ (l m : List UInt8), l.length = m.length → val l < val m → l < m
  | [], [], _, h => by simp at h
  | [], _ :: _, h, _ => by simp at h
  | _ :: _, [], h, _ => by simp at h
  | x :: l, y :: m, hl, h => by
    rw [val_cons, val_cons] at h
    have hlen : l.length = m.length := by simpa using hl
    rw [hlen] at h
    have h1 := val_lt l
    have h2 := val_lt m
    rw [hlen] at h1
    rw [List.cons_lt_cons_iff]
    by_cases hxy : x = y
    · subst hxy
      exact .inr ⟨rfl, val_mono l m hlen (by omega)⟩
    · refine .inl ?_
      rw [UInt8.lt_iff_toNat_lt]
      have hne : x.toNat ≠ y.toNat := fun e => hxy (UInt8.toNat_inj.1 e)
      rcases Nat.lt_or_ge x.toNat y.toNat with hc | hc
      · exact hc
      exfalso
      have hlt : y.toNat + 1 ≤ x.toNat := by omega
      have h3 : (y.toNat + 1) * 256 ^ m.length ≤ x.toNat * 256 ^ m.length := Nat.mul_le_mul_right _ hlt
      rw [Nat.add_mul, Nat.one_mul] at h3
      omega
theorem lessB_iff : ∀ (l m : List UInt8), lessB l m = decide (l < m)
  | [], [] => by simp [lessB]
  | [], y :: m => by simp [lessB]
  | x :: l, [] => by simp [lessB]
  | x :: l, y :: m => by
    unfold lessB
    by_cases h : x = y
    · subst h
      rw [if_pos rfl, lessB_iff l m]
      simp
    · rw [if_neg h]
      simp [List.cons_lt_cons_iff, h]
/-! the order of peers and of lanes -/
theorem ltP_asym (a b : PeerD) (h : ltP a b = true) : ltP b a = false := by unfold ltP at *; simp at *; omega
theorem ltP_tr (a b c : PeerD) (h1 : ltP b a = false) (h2 : ltP c b = false) : ltP c a = false := by unfold ltP at *; simp at *; omega
theorem ltL_asym (a b : LaneD) (h : ltL a b = true) : ltL b a = false := by
  unfold ltL at *
  rw [lessB_iff] at *
  simp at *
  exact List.le_of_lt h
theorem ltL_tr (a b c : LaneD) (h1 : ltL b a = false) (h2 : ltL c b = false) : ltL c a = false := by
  unfold ltL at *
  rw [lessB_iff] at *
  simp at *
  exact List.le_trans h1 h2
theorem be_inj {m n : Nat} (hm : m ≤ 4294967295) (hn : n ≤ 4294967295) (h : be 4 m = be 4 n) : m = n := by
  have := congrArg val h
  rw [val_be, val_be, Nat.mod_eq_of_lt (by omega), Nat.mod_eq_of_lt (by omega)] at this
  exact this
theorem ordP {r q : RowD} {x y : PeerD} (hx : gP r = some x) (hy : gP q = some y) (h : r.1 ≤ q.1) : ltP y x = false := by
  obtain ⟨k1, a1, b1⟩ := gP_key hx
  obtain ⟨k2, a2, b2⟩ := gP_key hy
  cases e : ltP y x with
  | false => rfl
  | true =>
    unfold ltP at e
    have hlt : y.link < x.link := by simpa using e
    exfalso
    apply h
    rw [k1, k2, List.cons_lt_cons_iff]
    refine .inr ⟨rfl, val_mono _ _ (by rw [be_len, be_len]) ?_⟩
    rw [val_be, val_be, Nat.mod_eq_of_lt (by omega), Nat.mod_eq_of_lt (by omega)]
    omega
theorem ordL {r q : RowD} {x y : LaneD} (hx : gL r = some x) (hy : gL q = some y) (h : r.1 ≤ q.1) : ltL y x = false := by
  have k1 := gL_key hx
  have k2 := gL_key hy
  cases e : ltL y x with
  | false => rfl
  | true =>
    unfold ltL at e
    rw [lessB_iff] at e
    exfalso
    apply h
    rw [k1, k2, List.cons_lt_cons_iff]
    exact .inr ⟨rfl, by simpa using e⟩
theorem one_row {l : List RowD} (hn : (l.map Prod.fst).Nodup) {r q : RowD} (hr : r ∈ l) (hq : q ∈ l) (h : r.1 = q.1) : r = q := by
  induction l with
  | nil => cases hr
  | cons x t ih =>
    rw [List.map_cons, List.nodup_cons] at hn
    rcases List.mem_cons.1 hr with e1 | hr2
    · rcases List.mem_cons.1 hq with e2 | hq2
      · rw [e1, e2]
      · exact absurd (List.mem_map.2 ⟨q, hq2, by rw [← h, e1]⟩) hn.1
    · rcases List.mem_cons.1 hq with e2 | hq2
      · exact absurd (List.mem_map.2 ⟨r, hr2, by rw [h, e2]⟩) hn.1
      · exact ih hn.2 hr2 hq2
theorem valOf_mem {l : List RowD} (hn : (l.map Prod.fst).Nodup) {r : RowD} (hr : r ∈ l) : valOf l r.1 = r.2 := by
  unfold valOf
  cases e : l.find? (fun q => q.1 == r.1) with
  | none => have := List.find?_eq_none.1 e r hr; simp at this
  | some q =>
    have h1 := List.find?_some e
    have h2 := List.mem_of_find?_eq_some e
    rw [one_row hn h2 hr (by simpa using h1)]
/-- the rows in the order of their keys -/
def rowsL (l : List RowD) : List RowD := (keysL l).map (fun k => (k, valOf l k))
theorem rowsL_perm {l : List RowD} (hn : (l.map Prod.fst).Nodup) : (rowsL l).Perm l := by
  have h1 : (rowsL l).Perm ((l.map Prod.fst).map (fun k => (k, valOf l k))) := (List.mergeSort_perm _ _).map _
  have h2 : (l.map Prod.fst).map (fun k => (k, valOf l k)) = l := by
    rw [List.map_map]
    conv => rhs; rw [← List.map_id l]
    apply List.map_congr_left
    intro r hr
    show (r.1, valOf l r.1) = r
    rw [valOf_mem hn hr]
  rw [h2] at h1
  exact h1
theorem rowsL_sorted (l : List RowD) : (rowsL l).Pairwise (fun r q => r.1 ≤ q.1) := by
  have tr : ∀ a b c : List UInt8, decide (a ≤ b) = true → decide (b ≤ c) = true → decide (a ≤ c) = true := fun a b c h1 h2 => by simp only [decide_eq_true_eq] at *; exact List.le_trans h1 h2
  have tot : ∀ a b : List UInt8, (decide (a ≤ b) || decide (b ≤ a)) = true := fun a b => by simp only [Bool.or_eq_true, decide_eq_true_eq]; exact List.le_total a b
  have h := List.pairwise_mergeSort tr tot (l.map Prod.fst)
  exact List.pairwise_map.2 (h.imp (fun h => by simpa using h))
theorem foldK_rows (l : List RowD) : foldK l = (rowsL l).foldl stepR (some ([], [], 0)) := by
  unfold foldK rowsL
  rw [List.foldl_map]
  rfl
theorem twice_nodup (l : List RowD) : twiceB l = false ↔ (l.map Prod.fst).Nodup := by
  unfold twiceB
  rw [decide_eq_false_iff_not, List.nodup_iff_pairwise_ne, List.pairwise_map, List.pairwise_iff_getElem]
  constructor
  · intro h i j hi hj hij e
    exact h ⟨j, hj, i, hij, by simpa [hi, hj] using e.symm⟩
  · rintro h ⟨i, hi, j, hij, e⟩
    refine h j i (by omega) hi hij ?_
    simpa [hi, show j < l.length by omega] using e.symm
theorem mem_fm {α : Type} {g : RowD → Option α} {l : List RowD} {x : α} (h : x ∈ l.filterMap g) : ∃ r, r ∈ l ∧ g r = some x := List.mem_filterMap.1 h
/-- both answer alike -/
theorem progState_eq (l : List RowD) : progState l = refState l := by
  unfold progState refState foldS
  rw [fold_ref]
  by_cases hn : (l.map Prod.fst).Nodup
  · rw [if_pos hn, (twice_nodup l).2 hn, foldK_rows, fold_prog]
    have hp := rowsL_perm hn
    have hso := rowsL_sorted l
    have hall : (rowsL l).all okR = l.all okR := by
      rw [Bool.eq_iff_iff, List.all_eq_true, List.all_eq_true]
      exact ⟨fun h x hx => h x (hp.mem_iff.2 hx), fun h x hx => h x (hp.mem_iff.1 hx)⟩
    rw [hall]
    dsimp only
    cases hok : l.all okR with
    | false => simp [ansK]
    | true =>
      have e1 : (l.filterMap gP).foldl (layG ltP) [] = (rowsL l).filterMap gP := by
        obtain ⟨s1, p1⟩ := fold_ins ltP_asym ltP_tr (l.filterMap gP) [] List.Pairwise.nil
        have s2 : ((rowsL l).filterMap gP).Pairwise (fun a b => ltP b a = false) := by
          rw [List.pairwise_filterMap]
          exact hso.imp (fun h a ha b hb => ordP ha hb h)
        refine List.Perm.eq_of_pairwise (le := fun a b => ltP b a = false) (fun a b ha hb h1 h2 => ?_) s1 s2 (p1.trans (by simpa using (hp.filterMap gP).symm))
        obtain ⟨r, hr, er⟩ := mem_fm (l := l) (by simpa using p1.mem_iff.1 ha)
        obtain ⟨q, hq, eq⟩ := mem_fm hb
        have hq := hp.mem_iff.1 hq
        have hl : a.link = b.link := by unfold ltP at h1 h2; simp at h1 h2; omega
        have hk : r.1 = q.1 := by rw [(gP_key er).1, (gP_key eq).1, hl]
        have := one_row hn hr hq hk
        rw [this, eq] at er
        injection er with er
        exact er.symm
      have e2 : (l.filterMap gL).foldl (layG ltL) [] = (rowsL l).filterMap gL := by
        obtain ⟨s1, p1⟩ := fold_ins ltL_asym ltL_tr (l.filterMap gL) [] List.Pairwise.nil
        have s2 : ((rowsL l).filterMap gL).Pairwise (fun a b => ltL b a = false) := by
          rw [List.pairwise_filterMap]
          exact hso.imp (fun h a ha b hb => ordL ha hb h)
        refine List.Perm.eq_of_pairwise (le := fun a b => ltL b a = false) (fun a b ha hb h1 h2 => ?_) s1 s2 (p1.trans (by simpa using (hp.filterMap gL).symm))
        obtain ⟨r, hr, er⟩ := mem_fm (l := l) (by simpa using p1.mem_iff.1 ha)
        obtain ⟨q, hq, eq⟩ := mem_fm hb
        have hq := hp.mem_iff.1 hq
        have hl : a.key = b.key := by
          unfold ltL at h1 h2
          rw [lessB_iff] at h1 h2
          simp at h1 h2
          exact List.le_antisymm h1 h2
        have hk : r.1 = q.1 := by rw [gL_key er, gL_key eq, hl]
        have := one_row hn hr hq hk
        rw [this, eq] at er
        injection er with er
        exact er.symm
      have e3 : (rowsL l).filterMap gB = l.filterMap gB := by
        have hone : ∀ (m : List Int), (∀ x ∈ m, x ∈ l.filterMap gB) → m.Pairwise (fun a b => a = b) := fun m hm => by
          rw [List.pairwise_iff_getElem]
          intro i j hi hj _
          obtain ⟨r, hr, er⟩ := mem_fm (hm _ (List.getElem_mem hi))
          obtain ⟨q, hq, eq⟩ := mem_fm (hm _ (List.getElem_mem hj))
          have := one_row hn hr hq (by rw [gB_key er, gB_key eq])
          rw [this, eq] at er
          injection er with er
          exact er.symm
        refine List.Perm.eq_of_pairwise (le := fun a b => a = b) (fun a b _ _ h1 _ => h1) (hone _ (fun x hx => (hp.filterMap gB).mem_iff.1 hx)) (hone _ (fun x hx => hx)) (hp.filterMap gB)
      rw [e1, e2, e3]
      simp [ansK]
  · rw [if_neg hn]
    have ht : twiceB l = true := by
      cases h : twiceB l with
      | true => rfl
      | false => exact absurd ((twice_nodup l).1 h) hn
    rw [ht]
    simp
end Go.Proofs.Ytnhfeoniiadjfaa.Lst
/- The walk of rows.state. -/
namespace Go.Proofs.Ytnhfeoniiadjfaa.Lst
open Go.RowKit Go.Proofs.Ytnhfeoniiadjfaa.K Go.Proofs.Ytnhfeoniiadjfaa.Help Go.Proofs.Ytnhfeoniiadjfaa.Pfx Go.Proofs.Ytnhfeoniiadjfaa.Peer
set_option linter.unusedVariables false

theorem GOf.below {w w' : World} {l : List RowD} {rs : List GRow} (h : GOf w l rs) (hb : Below w.heap.size w w') : GOf w' l rs := ⟨h.1, fun i x hx => by
  obtain ⟨B, b, e, s⟩ := h.2 i x hx
  exact ⟨B, b, e, s.below hb⟩⟩
theorem GMap.noU8 {w : World} {b : Nat} {rs : List GRow} (h : GMap w b rs) : NoU8 w b := by
  obtain ⟨⟨es, clock, hh, _⟩, _⟩ := h
  intro j x e
  simp [World.cell?, hh] at e
theorem GOf.only {w w' : World} {l : List RowD} {rs : List GRow} {b : Nat} (h : GOf w l rs) (k : Only w w' (fun i => i = b)) (hn : NoU8 w b) : GOf w' l rs := ⟨h.1, fun i x hx => by
  obtain ⟨B, c, e, s⟩ := h.2 i x hx
  exact ⟨B, c, e, bs_only s k (fun i hi _ => by rw [hi]; exact hn)⟩⟩
theorem dup_at {l : List RowD} {i : Nat} (hi : i < l.length) (h : (l.getD i zR).1 ∈ (l.take i).map Prod.fst) : twiceB l = true := by
  cases ht : twiceB l with
  | true => rfl
  | false =>
    have hn := (twice_nodup l).1 ht
    have e : l.getD i zR = l[i] := by simp [hi]
    rw [e] at h
    have h2 : (l.take (i + 1)).map Prod.fst = (l.take i).map Prod.fst ++ [l[i].1] := by rw [List.take_succ_eq_append_getElem hi, List.map_append]; rfl
    have h3 : ((l.take (i + 1)).map Prod.fst).Nodup := (hn.sublist ((List.take_sublist _ _).map _))
    rw [h2] at h3
    exact absurd rfl ((List.nodup_append.1 h3).2.2 _ h _ (by simp))
theorem rowsPL_p {ps : List PeerD} {ls : List LaneD} {k : Nat} (hk : k < ps.length) : (rowsPL ps ls).getD k zR = rowP (ps.getD k zeroPeer) := by
  unfold rowsPL
  have h1 : (ps.map rowP ++ ls.map rowL)[k]? = some (rowP ps[k]) := by rw [List.getElem?_append_left (by simpa using hk)]; simp [hk]
  rw [List.getD_eq_getElem?_getD, h1]
  simp [hk]
theorem rowsPL_l {ps : List PeerD} {ls : List LaneD} {j : Nat} (hj : j < ls.length) : (rowsPL ps ls).getD (ps.length + j) zR = rowL (ls.getD j zeroLane) := by
  unfold rowsPL
  have h1 : (ps.map rowP ++ ls.map rowL)[ps.length + j]? = some (rowL ls[j]) := by rw [List.getElem?_append_right (by simp)]; simp [hj]
  rw [List.getD_eq_getElem?_getD, h1]
  simp [hj]
theorem rowsPL_len (ps : List PeerD) (ls : List LaneD) : (rowsPL ps ls).length = ps.length + ls.length := by unfold rowsPL; simp
theorem take_row (l : List RowD) (k : Nat) (hk : k < l.length) : l.take (k + 1) = l.take k ++ [l.getD k zR] := by
  have e : l.getD k zR = l[k] := by simp [hk]
  rw [List.take_succ_eq_append_getElem hk, e]
theorem bad_p {ps : List PeerD} {ls : List LaneD} {k : Nat} (hk : k < ps.length) (h : okP (ps.getD k zeroPeer) = false) : goodPL ps ls = false := by
  unfold goodPL
  have : ps.all okP = false := by
    rw [List.all_eq_false]
    exact ⟨ps[k], List.getElem_mem hk, by have e : ps.getD k zeroPeer = ps[k] := by simp [hk]
                                          rw [e] at h; simp [h]⟩
  rw [this]; rfl
theorem bad_l {ps : List PeerD} {ls : List LaneD} {k : Nat} (hk : k < ls.length) (h : okL (ls.getD k zeroLane) = false) : goodPL ps ls = false := by
  unfold goodPL
  have : ls.all okL = false := by
    rw [List.all_eq_false]
    exact ⟨ls[k], List.getElem_mem hk, by have e : ls.getD k zeroLane = ls[k] := by simp [hk]
                                          rw [e] at h; simp [h]⟩
  rw [this, Bool.and_false]
def RetM (w : World) (rws : List RowD) (res : Bool) (e : Ending) (w' : World) : Prop :=
  Below w.heap.size w w' ∧ ((res = false ∧ e = .returned (.tuple #[.map none, .bool false])) ∨ (res = true ∧ ∃ b rs, e = .returned (.tuple #[.map (some b), .bool true]) ∧ w.heap.size ≤ b ∧ GMap w' b rs ∧ GOf w' rws rs))
end Go.Proofs.Ytnhfeoniiadjfaa.Lst
/- The walk of the document's Sets. -/
namespace Go.Proofs.Ytnhfeoniiadjfaa.Lst
open Go.RowKit Go.Proofs.Ytnhfeoniiadjfaa.K Go.Proofs.Ytnhfeoniiadjfaa.Help Go.Proofs.Ytnhfeoniiadjfaa.Pfx Go.Proofs.Ytnhfeoniiadjfaa.Peer
set_option linter.unusedVariables false

def stepA (was : List RowD) (s : List SetD) (r : RowD) : List SetD := if (hasK was r.1 && decide (valOf was r.1 = r.2)) = true then s else layG ltS s (r.1, r.2, false)
def stepB (is_ : List RowD) (s : List SetD) (r : RowD) : List SetD := if hasK is_ r.1 = true then s else layG ltS s (r.1, [], true)
abbrev QD := List SetD × Int
def setsOf (was is_ : List RowD) : List SetD := was.foldl (stepB is_) (is_.foldl (stepA was) [])
noncomputable def okPL (ps : List PeerD) (ls : List LaneD) : Bool := goodPL ps ls && !twiceB (rowsPL ps ls)
noncomputable def refSets (ps ps' : List PeerD) (ls ls' : List LaneD) : QD := if (okPL ps ls && okPL ps' ls') = true then (setsOf (rowsPL ps ls) (rowsPL ps' ls'), 0) else ([], 114)
def RetQ (w : World) (r : QD) (e : Ending) (w' : World) : Prop := ∃ A c, e = .returned (.tuple #[.slice A r.1.length c, .int .i64 r.2]) ∧ Lst SetE w' (fun _ => False) A c r.1 ∧ Below w.heap.size w w'
theorem take_fold {α β : Type} (f : β → α → β) (z : α) (s : β) (l : List α) (k : Nat) (hk : k < l.length) : (l.take (k + 1)).foldl f s = f ((l.take k).foldl f s) (l.getD k z) := by
  have e : l.getD k z = l[k] := by simp [hk]
  rw [List.take_succ_eq_append_getElem hk, List.foldl_append, e]; rfl
theorem stepA_len (was : List RowD) (s : List SetD) (r : RowD) : (stepA was s r).length ≤ s.length + 1 := by
  unfold stepA
  split
  · omega
  · rw [layG_len]; omega
theorem stepB_len (is_ : List RowD) (s : List SetD) (r : RowD) : (stepB is_ s r).length ≤ s.length + 1 := by
  unfold stepB
  split
  · omega
  · rw [layG_len]; omega
theorem set_rr {w : World} {A B : Option Addr} {a b : Nat} {k v : List UInt8} {g : Bool} (h1 : Bs w A a k) (h2 : Bs w B b v) : SetE.R w (fun _ => False) [Value.slice A k.length a, .slice B v.length b, .bool g] (k, v, g) := ⟨A, a, B, b, rfl, Bs.bsn h1, Bs.bsn h2⟩
end Go.Proofs.Ytnhfeoniiadjfaa.Lst
/- bytes.Compare. -/
namespace Go.Proofs.Ytnhfeoniiadjfaa.Lst
open Go.RowKit Go.Proofs.Ytnhfeoniiadjfaa.K Go.Proofs.Ytnhfeoniiadjfaa.Help Go.Proofs.Ytnhfeoniiadjfaa.Pfx Go.Proofs.Ytnhfeoniiadjfaa.Peer
set_option linter.unusedVariables false

theorem bytesOf_map (l : List UInt8) : Lib.bytesOf (l.map (fun b => (b.toNat : Int))) = l := by
  induction l with
  | nil => rfl
  | cons x t ih =>
    unfold Lib.bytesOf at ih ⊢
    simp only [List.map_cons, List.map_map] at ih ⊢
    rw [ih]
    simp
theorem bytesOf_bs {w : World} {A : Option Addr} {c : Nat} {l : List UInt8} (h : Bs w A c l) : (Extern.Bytes.bytesOf (.slice A l.length c)).run Try.prog w = .ok ⟨l.toArray⟩ w := by
  rcases A with _ | ad
  · have h0 : l = [] := by
      rcases l with _ | ⟨x, r⟩
      · rfl
      · obtain ⟨ad, h', _⟩ := h.at_ 0 (by simp)
        cases h'
    subst h0
    simp [Extern.Bytes.bytesOf]
    rfl
  · have hl := Lib.run_loadBytesX (P := Try.prog) w (l.map (fun b => (b.toNat : Int))) ad .empty (fun j x hj => by
      rw [List.getElem?_map] at hj
      obtain ⟨b, hb, rfl⟩ := Option.map_eq_some_iff.1 hj
      have hjl := (List.getElem?_eq_some_iff.1 hb).1
      obtain ⟨ad', e, _, hc⟩ := h.at_ j hjl
      cases e
      rw [hc, List.getD_eq_getElem?_getD, hb]
      rfl)
    rw [List.length_map, bytesOf_map] at hl
    simp only [Extern.Bytes.bytesOf]
    rw [hl]
    congr 1
    apply ByteArray.ext
    simp
theorem run_cmp (A B : Option Addr) (c d : Nat) (l m : List UInt8) (w : World) (ha : Bs w A c l) (hb : Bs w B d m) :
    (Extern.BytealgCompare.compare #[.slice A l.length c, .slice B m.length d]).run Try.prog w = .ok (.int .i64 (Lib.compareBytes l m)) w := by
  change Sem.run Try.prog (do pure (goInt (Extern.BytealgCompare.cmp (← Extern.Bytes.bytesOf (.slice A l.length c)) (← Extern.Bytes.bytesOf (.slice B m.length d))))) w = _
  simp only [Sem.run_bind, Sem.run_pure, bytesOf_bs ha, bytesOf_bs hb, Result.andThen]
  rw [Lib.cmp_eq]
  rfl
end Go.Proofs.Ytnhfeoniiadjfaa.Lst
/- The sort of sets by their keys. -/
namespace Go.Proofs.Ytnhfeoniiadjfaa.Lst
open Go.RowKit Go.Sort Go.Shelf Go.Proofs.Ytnhfeoniiadjfaa.K Go.Proofs.Ytnhfeoniiadjfaa.Help Go.Proofs.Ytnhfeoniiadjfaa.Pfx Go.Proofs.Ytnhfeoniiadjfaa.Peer
set_option linter.unusedVariables false

def sortSet_ren : Go.Shelf.Ren := ⟨fun | 6 => 59 | 15 => 77 | 14 => 76 | 28 => 89 | 29 => 90 | 20 => 81 | 21 => 82 | 22 => 83 | 23 => 84 | 24 => 85 | 25 => 86 | 26 => 87 | 27 => 88 | 46 => 93 | 47 => 94 | 48 => 95 | 49 => 96 | 50 => 97 | 57 => 107 | n => n, fun | 22 => 22 | 24 => 37 | 25 => 108 | 3 => 3 | 39 => 125 | 0 => 0 | 53 => 140 | 55 => 121 | 4 => 4 | 46 => 133 | 45 => 132 | 50 => 137 | 5 => 5 | 9 => 9 | 66 => 144 | 70 => 148 | 76 => 156 | 77 => 157 | n => n, fun | n => n⟩
theorem sortSet : Go.Proofs.SlLaysF0.n6 Try.prog sortSet_ren := {
  mixed := by kernel_rfl
  f6 := ⟨Try.f59.name, by decide, Try.func59.trans (congrArg some (by kernel_rfl))⟩
  f14 := ⟨Try.f76.name, by decide, Try.func76.trans (congrArg some (by kernel_rfl))⟩
  f15 := Try.func77.trans (congrArg some (by kernel_rfl))
  f20 := ⟨Try.f81.name, by decide, Try.func81.trans (congrArg some (by kernel_rfl))⟩
  f21 := ⟨Try.f82.name, by decide, Try.func82.trans (congrArg some (by kernel_rfl))⟩
  f22 := ⟨Try.f83.name, by decide, Try.func83.trans (congrArg some (by kernel_rfl))⟩
  f23 := ⟨Try.f84.name, by decide, Try.func84.trans (congrArg some (by kernel_rfl))⟩
  f24 := ⟨Try.f85.name, by decide, Try.func85.trans (congrArg some (by kernel_rfl))⟩
  f25 := ⟨Try.f86.name, by decide, Try.func86.trans (congrArg some (by kernel_rfl))⟩
  f26 := ⟨Try.f87.name, by decide, Try.func87.trans (congrArg some (by kernel_rfl))⟩
  f27 := ⟨Try.f88.name, by decide, Try.func88.trans (congrArg some (by kernel_rfl))⟩
  f28 := Try.func89.trans (congrArg some (by kernel_rfl))
  f29 := Try.func90.trans (congrArg some (by kernel_rfl))
  f46 := ⟨Try.f93.name, by decide, Try.func93.trans (congrArg some (by kernel_rfl))⟩
  f47 := Try.func94.trans (congrArg some (by kernel_rfl))
  f48 := Try.func95.trans (congrArg some (by kernel_rfl))
  f49 := ⟨Try.f96.name, by decide, Try.func96.trans (congrArg some (by kernel_rfl))⟩
  f50 := ⟨Try.f97.name, by decide, Try.func97.trans (congrArg some (by kernel_rfl))⟩
  f57 := ⟨Try.f107.name, by decide, Try.func107.trans (congrArg some (by kernel_rfl))⟩
  t0 := Try.underlying0
  a0 := Try.isAgg0
  z0 := Try.sizeOf0
  v0 := Try.zeroValue0
  t3 := Try.underlying3
  a3 := Try.isAgg3
  z3 := Try.sizeOf3
  v3 := Try.zeroValue3
  t4 := Try.underlying4
  a4 := Try.isAgg4
  z4 := Try.sizeOf4
  v4 := Try.zeroValue4
  t5 := Try.underlying5
  a5 := Try.isAgg5
  z5 := Try.sizeOf5
  v5 := Try.zeroValue5
  t9 := Try.underlying9
  a9 := Try.isAgg9
  z9 := Try.sizeOf9
  v9 := Try.zeroValue9
  t22 := Try.underlying22
  a22 := Try.isAgg22
  z22 := Try.sizeOf22
  v22 := Try.zeroValue22
  t25 := Try.underlying108
  a25 := Try.isAgg108
  z25 := Try.sizeOf108
  v25 := Try.zeroValue108
  t39 := Try.underlying125
  a39 := Try.isAgg125
  z39 := Try.sizeOf125
  v39 := Try.zeroValue125
  t45 := Try.underlying132
  a45 := Try.isAgg132
  z45 := Try.sizeOf132
  v45 := Try.zeroValue132
  t46 := Try.underlying133
  a46 := Try.isAgg133
  z46 := Try.sizeOf133
  v46 := Try.zeroValue133
  t50 := Try.underlying137
  a50 := Try.isAgg137
  z50 := Try.sizeOf137
  v50 := Try.zeroValue137
  t53 := Try.underlying140
  a53 := Try.isAgg140
  z53 := Try.sizeOf140
  v53 := Try.zeroValue140
  t55 := Try.underlying121
  a55 := Try.isAgg121
  z55 := Try.sizeOf121
  v55 := Try.zeroValue121
  t66 := Try.underlying144
  a66 := Try.isAgg144
  z66 := Try.sizeOf144
  v66 := Try.zeroValue144
  t70 := Try.underlying148
  a70 := Try.isAgg148
  z70 := Try.sizeOf148
  v70 := Try.zeroValue148
  t76 := Try.underlying156
  a76 := Try.isAgg156
  z76 := Try.sizeOf156
  v76 := Try.zeroValue156
  t77 := Try.underlying157
  a77 := Try.isAgg157
  z77 := Try.sizeOf157
  v77 := Try.zeroValue157 }
/-! bytes compared -/
theorem cmp_lt : ∀ (l m : List UInt8), decide (Lib.compareBytes l m < 0) = lessB l m
  | [], [] => by simp [Lib.compareBytes, lessB]
  | [], y :: m => by simp [Lib.compareBytes, lessB]
  | x :: l, [] => by simp [Lib.compareBytes, lessB]
  | x :: l, y :: m => by
    unfold Lib.compareBytes lessB
    by_cases h : x = y
    · subst h
      have hlt : ¬ x < x := UInt8.lt_irrefl x
      simp only [hlt, if_false, if_true]
      exact cmp_lt l m
    · rw [if_neg h]
      by_cases hlt : x < y
      · simp [hlt]
      · have : y < x := UInt8.lt_of_le_of_ne (UInt8.not_lt.1 hlt) (Ne.symm h)
        simp [hlt, this]
theorem lessB_irrefl (l : List UInt8) : lessB l l = false := by rw [lessB_iff]; simp
theorem lessB_tr {a b c : List UInt8} (h1 : lessB a b = true) (h2 : lessB b c = true) : lessB a c = true := by
  rw [lessB_iff] at *
  simp only [decide_eq_true_eq] at *
  exact List.lt_trans h1 h2
theorem lessB_ntr {a b c : List UInt8} (h1 : lessB a b = false) (h2 : lessB b c = false) : lessB a c = false := by
  rw [lessB_iff] at *
  simp only [decide_eq_false_iff_not, List.not_lt] at *
  exact List.le_trans h2 h1
theorem lessB_total {a b : List UInt8} (h1 : lessB a b = false) (h2 : lessB b a = false) : a = b := by
  rw [lessB_iff] at *
  simp only [decide_eq_false_iff_not, List.not_lt] at *
  exact List.le_antisymm h2 h1
end Go.Proofs.Ytnhfeoniiadjfaa.Lst
/- The sort of sets by their keys: the contract. -/
namespace Go.Proofs.Ytnhfeoniiadjfaa.Lst
open Go.RowKit Go.Sort Go.Shelf Go.Proofs.Ytnhfeoniiadjfaa.K Go.Proofs.Ytnhfeoniiadjfaa.Help Go.Proofs.Ytnhfeoniiadjfaa.Pfx Go.Proofs.Ytnhfeoniiadjfaa.Peer
set_option linter.unusedVariables false

def sortS (l : List SetD) : List SetD := l.mergeSort (fun x y => !lessB y.1 x.1)
section
variable {α : Type} [Inhabited α] {enc : α → List Value}
theorem sorted_only {W : World} {g n : Nat} {k : Nat} (d : Array α) (os : Array Obj) : Only W (sortWorldK enc k W g 0 n d os) (fun i => i = g) := by
  refine ⟨rfl, rfl, rfl, by simp [sortWorldK, putRowK, putRow, mapBlock, Sort.ahead, grow], fun i hi hne => ?_⟩
  unfold sortWorldK
  rw [heap_grow_old _ _ (by simpa [putRowK, putRow, mapBlock, Sort.ahead] using hi)]
  have : g ≠ i := fun e => hne e.symm
  simp [putRowK, putRow, mapBlock, Sort.ahead, Array.getElem?_modify, this]
theorem sorted_blk {W : World} {g n : Nat} {k : Nat} {cur : Array Value} {t : TypeId} {fr : Nat × Nat} (d : Array α) (os : Array Obj) (hb : W.heap[g]? = some (.cells cur t fr)) :
    (sortWorldK enc k W g 0 n d os).heap[g]? = some (.cells (putCells id 0 (flatK enc k d) cur) t fr) := by
  have hg : g < W.heap.size := blk_lt hb
  unfold sortWorldK
  rw [heap_grow_old _ _ (by simpa [putRowK, putRow, mapBlock, Sort.ahead] using hg)]
  simp [putRowK, putRow, mapBlock, Sort.ahead, Array.getElem?_modify, hb, onCells]
theorem flat_len {k : Nat} : ∀ (raws : List (List Value)), (∀ r, r ∈ raws → r.length = k) → raws.flatten.length = raws.length * k
  | [], _ => by simp
  | r :: t, h => by
    rw [List.flatten_cons, List.length_append, flat_len t (fun x hx => h x (by simp [hx])), h r (by simp), List.length_cons, Nat.succ_mul]
    omega
theorem flatK_eq {k : Nat} (hk : ∀ x, (enc x).length = k) (hk0 : 0 < k) (d : Array α) : (flatK enc k d).toList = (d.toList.map enc).flatten := by
  apply List.ext_getElem?
  intro t
  have hl : (d.toList.map enc).flatten.length = d.size * k := by
    rw [flat_len (k := k) _ (fun r hr => by obtain ⟨x, _, rfl⟩ := List.mem_map.1 hr; exact hk x)]
    simp
  by_cases ht : t < d.size * k
  · have hd : t / k < d.size := Nat.div_lt_of_lt_mul (by rw [Nat.mul_comm]; exact ht)
    have hm : t % k < k := Nat.mod_lt _ hk0
    have h1 := flat_at (sz := k) (raws := d.toList.map enc) (fun r hr => by obtain ⟨x, _, rfl⟩ := List.mem_map.1 hr; exact hk x) (t / k) (t % k) (enc d[t / k]) (by simp [hd]) hm
    have ht2 : t / k * k + t % k = t := by rw [Nat.mul_comm]; exact Nat.div_add_mod t k
    rw [ht2] at h1
    rw [h1]
    have h2 : (flatK enc k d).toList[t]? = some ((enc d[t / k]!)[t % k]!) := by
      rw [Array.getElem?_toList]
      simp [flatK, ht]
    rw [h2, getElem!_pos d (t / k) hd, getElem!_pos (enc d[t / k]) (t % k) (by rw [hk]; exact hm), List.getElem?_eq_getElem (by rw [hk]; exact hm)]
  · rw [List.getElem?_eq_none (by simp; omega), List.getElem?_eq_none (by rw [hl]; omega)]
end
theorem put_take (F cur : Array Value) (p : Nat) (hp : F.size = p) (h : p ≤ cur.size) : (putCells id 0 F cur).toList.take p = F.toList := by
  apply List.ext_getElem?
  intro j
  by_cases hj : j < p
  · rw [List.getElem?_take_of_lt hj, Array.getElem?_toList, Array.getElem?_toList]
    simp [putCells, show j < F.size by omega, show j < cur.size by omega]
  · rw [List.getElem?_take_eq_none (by omega), List.getElem?_eq_none (by simp; omega)]
set_option maxHeartbeats 1000000 in
theorem sortSets_gen (f : FuncId) (eg : ∀ args w, (callFunc f args).run Try.prog w = .ok (.enter f args) w)
    (hCF : ∀ (A C : Option Addr) (a c : Nat) (k m : List UInt8) (v1 g1 v2 g2 : Value) (W : World), v1.oneCell' = true → v2.oneCell' = true → Bs W A a k → Bs W C c m → Calls Try.prog f #[.agg #[.slice A k.length a, v1, g1], .agg #[.slice C m.length c, v2, g2]] W (fun e w' => e = .returned (.int .i64 (Lib.compareBytes k m)) ∧ ∃ q os', w' = grow (W.drewN q) os'))
    (W : World) (B : Nat) (v : Value) (l : List SetD) (hO : OwnL SetE 37 W (fun _ => False) B v l) (hn : (l.map Prod.fst).Nodup) :
    Calls Try.prog 59 #[v, .func (.func f) #[] #[]] W (fun e w' => e = .returned (.tuple #[]) ∧ OwnL SetE 37 w' (fun _ => False) B v (sortS l) ∧ Only W w' (fun i => v.ownBlock = some i)) := by
  rcases hl : l with _ | ⟨x0, t⟩
  · subst hl
    obtain ⟨A, c, rfl⟩ := hO.slice
    have h : Calls Try.prog 59 #[.slice A 0 c, .func (.func f) #[] #[]] W _ := AnyF.slices_SortFunc_none sortSet A c _ W
    refine h.mono ?_
    rintro e w' ⟨rfl, rfl⟩
    exact ⟨rfl, by simpa [sortS] using hO, Only.refl _ _⟩
  · rw [← hl]
    have hlen : l.length = t.length + 1 := by rw [hl]; rfl
    clear hl
    obtain ⟨raws, hr, hown, hm, hR⟩ := hO
    rcases hown.2 with ⟨_, h0⟩ | ⟨g, cap, cur, rfl, hbase, hb, h1, h2, h3, h4⟩
    · omega
    have hsh : ∀ i : Fin (t.length + 1), SetR W (fun k => (fun _ => False) k ∨ (Value.slice (some ⟨g, 0, none⟩) l.length cap).ownBlock = some k) (raws.getD i.val []) (l.getD i.val zeroSet) := fun i => by
      have e1 : l[i.val]? = some (l.getD i.val zeroSet) := getD_get zeroSet (by omega)
      have e2 : raws[i.val]? = some (raws.getD i.val []) := getD_get [] (by omega)
      exact hR i.val _ _ e1 e2
    obtain ⟨enc, he⟩ : ∃ enc : Fin (t.length + 1) → List Value, ∀ i, enc i = raws.getD i.val [] := ⟨_, fun _ => rfl⟩
    obtain ⟨dat, hdt⟩ : ∃ dat : Fin (t.length + 1) → SetD, ∀ i, dat i = l.getD i.val zeroSet := ⟨_, fun _ => rfl⟩
    have hsh2 : ∀ i, SetR W (fun k => k = g) (enc i) (dat i) := fun i => by
      rw [he, hdt]
      exact SetE.reno (hsh i) (fun k hk => .inl (.inr (by rw [hk]; rfl)))
    have hk : ∀ i, (enc i).length = 3 := fun i => SetE.len (hsh2 i)
    have hone : ∀ i, ∀ u ∈ enc i, u.oneCell' = true := fun i => SetE.one (hsh2 i)
    obtain ⟨cf, hcf⟩ : ∃ cf : Fin (t.length + 1) → Fin (t.length + 1) → Int, ∀ i j, cf i j = Lib.compareBytes (dat i).1 (dat j).1 := ⟨_, fun _ _ => rfl⟩
    have hlt : ∀ i j, ltOf cf i j = lessB (dat i).1 (dat j).1 := fun i j => by unfold ltOf; rw [hcf, cmp_lt]
    have hO : SWO (ltOf cf) := ⟨fun x => by rw [hlt]; exact lessB_irrefl _, fun x y z a b => by rw [hlt] at *; exact lessB_tr a b, fun x y z a b => by rw [hlt] at *; exact lessB_ntr a b⟩
    obtain ⟨d, hd⟩ : ∃ d : Array (Fin (t.length + 1)), d = Array.ofFn (fun i => i) := ⟨_, rfl⟩
    have hds : d.size = l.length := by rw [hd, hlen]; simp
    have hdi : ∀ i (h : i < t.length + 1), d.toList[i]? = some ⟨i, h⟩ := fun i h => by
      rw [hd, Array.getElem?_toList, Array.getElem?_eq_getElem (by simpa using h), Array.getElem_ofFn]
    have hdn : ∀ i, ¬ i < t.length + 1 → d.toList[i]? = none := fun i h => by
      rw [Array.getElem?_toList]; exact Array.getElem?_eq_none (by omega)
    have hdl : d.toList.map enc = raws := by
      apply List.ext_getElem?
      intro i
      rw [List.getElem?_map]
      by_cases h : i < t.length + 1
      · rw [hdi i h, Option.map_some, he]
        exact (getD_get [] (by omega)).symm
      · rw [hdn i h, List.getElem?_eq_none (by omega)]; rfl
    have hdd : d.toList.map dat = l := by
      apply List.ext_getElem?
      intro i
      rw [List.getElem?_map]
      by_cases h : i < t.length + 1
      · rw [hdi i h, Option.map_some, hdt]
        exact (getD_get zeroSet (by omega)).symm
      · rw [hdn i h, List.getElem?_eq_none (by omega)]; rfl
    have hF : (flatK enc 3 d).toList = raws.flatten := by rw [flatK_eq hk (by decide), hdl]
    have hcmp : CmpLays Try.prog f #[] enc 3 cf g 0 d.size W := by
      intro m os dk _ x y
      obtain ⟨A, a, C, c, ex, s1, s2⟩ := hsh2 x
      obtain ⟨A', a', C', c', ey, u1, u2⟩ := hsh2 y
      have k := sorted_only (enc := enc) (W := W) (g := g) (n := m) (k := 3) dk os
      have hc := hCF A A' a a' (dat x).1 (dat y).1 (.slice C (dat x).2.1.length c) (.bool (dat x).2.2) (.slice C' (dat y).2.1.length c') (.bool (dat y).2.2) (sortWorldK enc 3 W g 0 m dk os) rfl rfl (s1.only k (fun i _ h => h)).1 (u1.only k (fun i _ h => h)).1
      rw [← hcf] at hc
      rw [ex, ey]
      exact hc
    have hH : HoldsK enc 3 W g 0 d := by
      intro j hj
      rw [Nat.zero_add]
      refine ⟨(blk_cell hb j).trans ?_, blk_free hb j⟩
      have hj2 : j < l.length * 3 := by rw [size_flatK, hds] at hj; exact hj
      have e1 : (cur.toList.take (l.length * 3))[j]? = raws.flatten[j]? := by rw [show cur.toList.take (l.length * 3) = raws.flatten from h4]
      rw [List.getElem?_take_of_lt hj2, Array.getElem?_toList, ← hF, Array.getElem?_toList] at e1
      rw [e1, Array.getElem?_eq_getElem hj, getElem!_pos _ j hj]
      rfl
    have hT : ∀ x y, ltOf cf x y = false → ltOf cf y x = false → x = y := fun x y a b => by
      rw [hlt] at a b
      have hke := lessB_total a b
      rw [hdt, hdt] at hke
      have hx : x.val < l.length := by omega
      have hy : y.val < l.length := by omega
      have ex : l.getD x.val zeroSet = l[x.val] := by simp [hx]
      have ey : l.getD y.val zeroSet = l[y.val] := by simp [hy]
      rw [ex, ey] at hke
      have hp := List.pairwise_iff_getElem.1 (List.nodup_iff_pairwise_ne.1 hn)
      apply Fin.ext
      rcases Nat.lt_trichotomy x.val y.val with h | h | h
      · exact absurd (by rw [List.getElem_map, List.getElem_map]; exact hke) (hp x.val y.val (by simpa using hx) (by simpa using hy) h)
      · exact h
      · exact absurd (by rw [List.getElem_map, List.getElem_map]; exact hke.symm) (hp y.val x.val (by simpa using hy) (by simpa using hx) h)
    have hc := AnyQ.slices_SortFunc_total sortSet 3 Try.isAgg37 Try.sizeOf37 enc hk hone cf hO f #[] g 0 cap d W eg hcmp hH (blk_lt hb) (by rw [hds]; omega) hT
    rw [hds] at hc
    change Calls Try.prog 59 _ _ _ at hc
    refine hc.mono ?_
    rintro e w' ⟨rfl, nn, os, hw⟩
    have hp : (d.toList.mergeSort fun x y => !ltOf cf y x).Perm d.toList := List.mergeSort_perm _ _
    have hsl : (d.toList.mergeSort fun x y => !ltOf cf y x).map dat = sortS l := by
      unfold sortS
      rw [List.map_mergeSort (s := fun x y => !lessB y.1 x.1) (fun a _ b _ => by rw [hlt]), hdd]
    generalize (d.toList.mergeSort fun x y => !ltOf cf y x) = dl at *
    have hdll : dl.length = l.length := by rw [hp.length_eq]; simp [hds]
    have k := sorted_only (enc := enc) (W := W) (g := g) (n := nn) (k := 3) dl.toArray os
    have hb' := sorted_blk (enc := enc) (n := nn) (k := 3) dl.toArray os hb
    rw [← hw] at k hb'
    have hF' : (flatK enc 3 dl.toArray).toList = (dl.map enc).flatten := by rw [flatK_eq hk (by decide)]
    have hfs : (flatK enc 3 dl.toArray).size = l.length * 3 := by rw [size_flatK]; simp [hdll]
    refine ⟨rfl, ⟨dl.map enc, by rw [← hsl]; simp, ?_, by rw [← hsl]; simp [hdll]; omega, fun i x raw hx hraw => ?_⟩, k.mono (fun i _ h => by rw [h]; rfl)⟩
    · rw [← hsl, List.length_map, hdll]
      refine ⟨?_, .inr ⟨g, cap, _, rfl, hbase, hb', h1, h2, by simp [putCells, h3], ?_⟩⟩
      · rw [← hF']; simp [hdll]; rfl
      · rw [← hF']; exact put_take _ _ _ hfs (by rw [h3]; exact Nat.mul_le_mul_right _ h1)
    · rw [← hsl, List.getElem?_map] at hx
      rw [List.getElem?_map] at hraw
      obtain ⟨q, hq, rfl⟩ := Option.map_eq_some_iff.1 hx
      rw [hq] at hraw
      simp only [Option.map_some, Option.some.injEq] at hraw
      subst hraw
      exact SetE.reno (SetE.only (hsh2 q) k (fun i _ h => h)) (fun i hi => .inl (by
        rcases hi with hi | hi
        · exact hi.elim
        · have : g = i := by simpa [Value.ownBlock] using hi
          exact this.symm))
end Go.Proofs.Ytnhfeoniiadjfaa.Lst
/- The program's sets are the document's (plain). -/
namespace Go.Proofs.Ytnhfeoniiadjfaa.Lst
open Go.RowKit Go.Proofs.Ytnhfeoniiadjfaa.K Go.Proofs.Ytnhfeoniiadjfaa.Help Go.Proofs.Ytnhfeoniiadjfaa.Pfx Go.Proofs.Ytnhfeoniiadjfaa.Peer
set_option linter.unusedVariables false

def fA (was : List RowD) (r : RowD) : Option SetD := if (hasK was r.1 && decide (valOf was r.1 = r.2)) = true then none else some (r.1, r.2, false)
def fB (is_ : List RowD) (r : RowD) : Option SetD := if hasK is_ r.1 = true then none else some (r.1, [], true)
def stepPA (was is_ : List RowD) (s : List SetD) (k : List UInt8) : List SetD := if (hasK was k && decide (valOf was k = valOf is_ k)) = true then s else s ++ [(k, valOf is_ k, false)]
def stepPB (is_ : List RowD) (s : List SetD) (k : List UInt8) : List SetD := if hasK is_ k = true then s else s ++ [(k, [], true)]
def rawSets (was is_ : List RowD) : List SetD := (keysL was).foldl (stepPB is_) ((keysL is_).foldl (stepPA was is_) [])
theorem stepPA_len (was is_ : List RowD) (s : List SetD) (k : List UInt8) : (stepPA was is_ s k).length ≤ s.length + 1 := by
  unfold stepPA
  split
  · omega
  · simp
theorem stepPB_len (is_ : List RowD) (s : List SetD) (k : List UInt8) : (stepPB is_ s k).length ≤ s.length + 1 := by
  unfold stepPB
  split
  · omega
  · simp
theorem foldPA (was is_ : List RowD) : ∀ (ks : List (List UInt8)) (s : List SetD), ks.foldl (stepPA was is_) s = s ++ (ks.map (fun k => (k, valOf is_ k))).filterMap (fA was)
  | [], s => by simp
  | k :: t, s => by
    rw [List.foldl_cons, foldPA was is_ t, List.map_cons, List.filterMap_cons]
    unfold stepPA fA
    dsimp only
    by_cases h : (hasK was k && decide (valOf was k = valOf is_ k)) = true
    · rw [if_pos h, if_pos h]
    · rw [if_neg h, if_neg h]; simp
theorem foldPB (was is_ : List RowD) : ∀ (ks : List (List UInt8)) (s : List SetD), ks.foldl (stepPB is_) s = s ++ (ks.map (fun k => (k, valOf was k))).filterMap (fB is_)
  | [], s => by simp
  | k :: t, s => by
    rw [List.foldl_cons, foldPB was is_ t, List.map_cons, List.filterMap_cons]
    unfold stepPB fB
    dsimp only
    by_cases h : hasK is_ k = true
    · rw [if_pos h, if_pos h]
    · rw [if_neg h, if_neg h]; simp
theorem raw_eq (was is_ : List RowD) : rawSets was is_ = (rowsL is_).filterMap (fA was) ++ (rowsL was).filterMap (fB is_) := by
  unfold rawSets rowsL
  rw [foldPA, foldPB, List.nil_append]
theorem foldA (was : List RowD) : ∀ (l : List RowD) (s : List SetD), l.foldl (stepA was) s = (l.filterMap (fA was)).foldl (layG ltS) s
  | [], s => rfl
  | r :: t, s => by
    rw [List.foldl_cons, foldA was t, List.filterMap_cons]
    unfold stepA fA
    by_cases h : (hasK was r.1 && decide (valOf was r.1 = r.2)) = true
    · rw [if_pos h, if_pos h]
    · rw [if_neg h, if_neg h]; rfl
theorem foldB (is_ : List RowD) : ∀ (l : List RowD) (s : List SetD), l.foldl (stepB is_) s = (l.filterMap (fB is_)).foldl (layG ltS) s
  | [], s => rfl
  | r :: t, s => by
    rw [List.foldl_cons, foldB is_ t, List.filterMap_cons]
    unfold stepB fB
    by_cases h : hasK is_ r.1 = true
    · rw [if_pos h, if_pos h]
    · rw [if_neg h, if_neg h]; rfl
theorem setsOf_eq (was is_ : List RowD) : setsOf was is_ = (is_.filterMap (fA was) ++ was.filterMap (fB is_)).foldl (layG ltS) [] := by
  unfold setsOf
  rw [foldA, foldB, List.foldl_append]
theorem hasK_mem {l : List RowD} {k : List UInt8} : hasK l k = true ↔ k ∈ l.map Prod.fst := by
  unfold hasK
  rw [List.any_eq_true, List.mem_map]
  constructor
  · rintro ⟨r, h1, h2⟩; exact ⟨r, h1, by simpa using h2⟩
  · rintro ⟨r, h1, h2⟩; exact ⟨r, h1, by simpa using h2⟩
theorem fA_some {was : List RowD} {r : RowD} {s : SetD} (h : fA was r = some s) : s = (r.1, r.2, false) ∧ ¬ (hasK was r.1 = true ∧ valOf was r.1 = r.2) := by
  unfold fA at h
  by_cases h1 : (hasK was r.1 && decide (valOf was r.1 = r.2)) = true
  · rw [if_pos h1] at h; cases h
  · rw [if_neg h1] at h; injection h with h; exact ⟨h.symm, by simpa using h1⟩
theorem fB_some {is_ : List RowD} {r : RowD} {s : SetD} (h : fB is_ r = some s) : s = (r.1, [], true) ∧ hasK is_ r.1 = false := by
  unfold fB at h
  by_cases h1 : hasK is_ r.1 = true
  · rw [if_pos h1] at h; cases h
  · rw [if_neg h1] at h; injection h with h; exact ⟨h.symm, by simpa using h1⟩
theorem fm_sub {f : RowD → Option SetD} (hf : ∀ r s, f r = some s → s.1 = r.1) : ∀ l : List RowD, ((l.filterMap f).map Prod.fst).Sublist (l.map Prod.fst)
  | [] => by simp
  | r :: t => by
    rw [List.filterMap_cons, List.map_cons]
    cases h : f r with
    | none => exact (fm_sub hf t).cons _
    | some s => rw [List.map_cons, hf r s h]; exact (fm_sub hf t).cons_cons _
theorem all_nodup {was is_ : List RowD} (h1 : (was.map Prod.fst).Nodup) (h2 : (is_.map Prod.fst).Nodup) : ((is_.filterMap (fA was) ++ was.filterMap (fB is_)).map Prod.fst).Nodup := by
  rw [List.map_append, List.nodup_append]
  refine ⟨h2.sublist (fm_sub (fun r s h => by rw [(fA_some h).1]) _), h1.sublist (fm_sub (fun r s h => by rw [(fB_some h).1]) _), ?_⟩
  intro a ha b hb e
  subst e
  obtain ⟨s, hs, rfl⟩ := List.mem_map.1 ha
  obtain ⟨u, hu, e⟩ := List.mem_map.1 hb
  obtain ⟨r, hr, er⟩ := List.mem_filterMap.1 hs
  obtain ⟨q, hq, eq⟩ := List.mem_filterMap.1 hu
  have e1 := (fA_some er).1
  have e2 := fB_some eq
  rw [e2.1, e1] at e
  have : hasK is_ q.1 = true := hasK_mem.2 (List.mem_map.2 ⟨r, hr, by simpa using e.symm⟩)
  rw [this] at e2
  exact absurd e2.2 (by simp)
theorem one_fst {α β : Type} {l : List (α × β)} (hn : (l.map Prod.fst).Nodup) {r q : α × β} (hr : r ∈ l) (hq : q ∈ l) (h : r.1 = q.1) : r = q := by
  induction l with
  | nil => cases hr
  | cons x t ih =>
    rw [List.map_cons, List.nodup_cons] at hn
    rcases List.mem_cons.1 hr with e1 | hr2
    · rcases List.mem_cons.1 hq with e2 | hq2
      · rw [e1, e2]
      · exact absurd (List.mem_map.2 ⟨q, hq2, by rw [← h, e1]⟩) hn.1
    · rcases List.mem_cons.1 hq with e2 | hq2
      · exact absurd (List.mem_map.2 ⟨r, hr2, by rw [h, e2]⟩) hn.1
      · exact ih hn.2 hr2 hq2
theorem raw_perm {was is_ : List RowD} (h1 : (was.map Prod.fst).Nodup) (h2 : (is_.map Prod.fst).Nodup) : (rawSets was is_).Perm (is_.filterMap (fA was) ++ was.filterMap (fB is_)) := by
  rw [raw_eq]
  exact ((rowsL_perm h2).filterMap _).append ((rowsL_perm h1).filterMap _)
theorem raw_nodup {was is_ : List RowD} (h1 : (was.map Prod.fst).Nodup) (h2 : (is_.map Prod.fst).Nodup) : ((rawSets was is_).map Prod.fst).Nodup :=
  ((raw_perm h1 h2).map _).nodup_iff.2 (all_nodup h1 h2)
theorem ltS_asym (a b : SetD) (h : ltS a b = true) : ltS b a = false := by
  unfold ltS at *
  cases e : lessB b.1 a.1 with
  | false => rfl
  | true => have := lessB_tr h e; rw [lessB_irrefl] at this; cases this
theorem ltS_tr (a b c : SetD) (h1 : ltS b a = false) (h2 : ltS c b = false) : ltS c a = false := lessB_ntr h2 h1
theorem sortS_perm (l : List SetD) : (sortS l).Perm l := List.mergeSort_perm _ _
theorem sortS_sorted (l : List SetD) : (sortS l).Pairwise (fun a b => ltS b a = false) := by
  have tr : ∀ a b c : SetD, (!lessB b.1 a.1) = true → (!lessB c.1 b.1) = true → (!lessB c.1 a.1) = true := fun a b c h1 h2 => by
    simp only [Bool.not_eq_true'] at *
    exact lessB_ntr h2 h1
  have tot : ∀ a b : SetD, ((!lessB b.1 a.1) || (!lessB a.1 b.1)) = true := fun a b => by
    cases e : lessB b.1 a.1 with
    | false => rfl
    | true => have h := ltS_asym b a e; unfold ltS at h; rw [h]; rfl
  exact (List.pairwise_mergeSort tr tot l).imp (fun h => by simpa [ltS] using h)
theorem progSets_eq {was is_ : List RowD} (h1 : (was.map Prod.fst).Nodup) (h2 : (is_.map Prod.fst).Nodup) : sortS (rawSets was is_) = setsOf was is_ := by
  rw [setsOf_eq]
  obtain ⟨s1, p1⟩ := fold_ins ltS_asym ltS_tr (is_.filterMap (fA was) ++ was.filterMap (fB is_)) [] List.Pairwise.nil
  rw [List.nil_append] at p1
  have p2 := (sortS_perm (rawSets was is_)).trans (raw_perm h1 h2)
  refine List.Perm.eq_of_pairwise (le := fun a b => ltS b a = false) (fun a b ha hb e1 e2 => ?_) (sortS_sorted _) s1 (p2.trans p1.symm)
  exact one_fst (all_nodup h1 h2) (p2.mem_iff.1 ha) (p1.mem_iff.1 hb) (lessB_total e2 e1)
end Go.Proofs.Ytnhfeoniiadjfaa.Lst
/- Tables, plain: rows in the order of their keys. -/
namespace Go.Proofs.Ytnhfeoniiadjfaa.Lst
open Go.RowKit Go.Proofs.Ytnhfeoniiadjfaa.K Go.Proofs.Ytnhfeoniiadjfaa.Help
set_option linter.unusedVariables false

/-- keys rise -/
def Srt (l : List RowD) : Prop := l.Pairwise (fun r q => r.1 < q.1)
def delR (l : List RowD) (k : List UInt8) : List RowD := l.filter (fun r => decide (r.1 ≠ k))
def setR (l : List RowD) (k v : List UInt8) : List RowD := l.filter (fun r => decide (r.1 < k)) ++ (k, v) :: l.filter (fun r => decide (k < r.1))
def appS (l : List RowD) (s : SetD) : List RowD := if s.2.2 = true then delR l s.1 else setR l s.1 s.2.1
def appL (l : List RowD) (ss : List SetD) : List RowD := ss.foldl appS l
def mayB (s : SetD) : Bool := !(s.2.2 && decide (0 < s.2.1.length)) && decide (1 ≤ s.1.length ∧ s.1.length ≤ 40 ∧ s.2.1.length ≤ 480)
theorem lt_irr (a : List UInt8) : ¬ a < a := List.lt_irrefl a
theorem lt_ne {a b : List UInt8} (h : a < b) : a ≠ b := fun e => by subst e; exact lt_irr a h
theorem lt_cases {a b : List UInt8} (h : a ≠ b) : a < b ∨ b < a := by
  rcases List.le_total a b with h1 | h1
  · exact .inl (Classical.byContradiction fun h2 => h (List.le_antisymm h1 (List.not_lt.1 h2)))
  · exact .inr (Classical.byContradiction fun h2 => h (List.le_antisymm (List.not_lt.1 h2) h1))
theorem nodupF {α β : Type} {l : List (α × β)} (h : (l.map Prod.fst).Nodup) : l.Nodup := by
  rw [List.nodup_iff_pairwise_ne] at h ⊢
  rw [List.pairwise_map] at h
  exact h.imp (fun h e => h (by rw [e]))
theorem Srt.nodup {l : List RowD} (h : Srt l) : (l.map Prod.fst).Nodup := by
  rw [List.nodup_iff_pairwise_ne, List.pairwise_map]
  exact h.imp lt_ne
theorem mem_delR {l : List RowD} {k : List UInt8} {x : RowD} : x ∈ delR l k ↔ x ∈ l ∧ x.1 ≠ k := by
  unfold delR
  rw [List.mem_filter]
  simp
theorem mem_setR {l : List RowD} {k v : List UInt8} {x : RowD} : x ∈ setR l k v ↔ x = (k, v) ∨ (x ∈ l ∧ x.1 ≠ k) := by
  unfold setR
  rw [List.mem_append, List.mem_cons, List.mem_filter, List.mem_filter, decide_eq_true_eq, decide_eq_true_eq]
  constructor
  · rintro (⟨h1, h2⟩ | rfl | ⟨h1, h2⟩)
    · exact .inr ⟨h1, lt_ne h2⟩
    · exact .inl rfl
    · exact .inr ⟨h1, fun e => lt_ne h2 e.symm⟩
  · rintro (rfl | ⟨h1, h2⟩)
    · exact .inr (.inl rfl)
    · rcases lt_cases h2 with h | h
      · exact .inl ⟨h1, h⟩
      · exact .inr (.inr ⟨h1, h⟩)
theorem srt_nil : Srt [] := List.Pairwise.nil
theorem Srt.del {l : List RowD} (h : Srt l) (k : List UInt8) : Srt (delR l k) := List.Pairwise.filter _ h
theorem Srt.set {l : List RowD} (h : Srt l) (k v : List UInt8) : Srt (setR l k v) := by
  unfold Srt setR
  rw [List.pairwise_append]
  refine ⟨List.Pairwise.filter _ h, List.pairwise_cons.2 ⟨fun q hq => ?_, List.Pairwise.filter _ h⟩, fun r hr q hq => ?_⟩
  · rw [List.mem_filter] at hq; simpa using hq.2
  · rw [List.mem_filter, decide_eq_true_eq] at hr
    rcases List.mem_cons.1 hq with rfl | hq
    · exact hr.2
    · rw [List.mem_filter, decide_eq_true_eq] at hq
      exact List.lt_trans hr.2 hq.2
theorem Srt.app {l : List RowD} (h : Srt l) (s : SetD) : Srt (appS l s) := by
  unfold appS
  split
  · exact h.del _
  · exact h.set _ _
theorem Srt.appL : ∀ (ss : List SetD) {l : List RowD}, Srt l → Srt (appL l ss)
  | [], _, h => h
  | s :: t, _, h => Srt.appL t (h.app s)
/-- sorted rows are told by their members -/
theorem Srt.ext {l m : List RowD} (hl : Srt l) (hm : Srt m) (h : ∀ x, x ∈ l ↔ x ∈ m) : l = m := by
  have hp : l.Perm m := (List.perm_ext_iff_of_nodup (nodupF hl.nodup) (nodupF hm.nodup)).2 h
  exact List.Perm.eq_of_pairwise (le := fun r q : RowD => r.1 < q.1) (fun a b _ _ h1 h2 => absurd (List.lt_trans h1 h2) (lt_irr _)) hl hm hp
theorem keys_sorted {l : List RowD} (h : Srt l) : keysL l = l.map Prod.fst := by
  unfold keysL
  refine List.Perm.eq_of_pairwise (le := fun x y : List UInt8 => x ≤ y) (fun a b _ _ h1 h2 => List.le_antisymm h1 h2) ?_ ?_ (List.mergeSort_perm _ _)
  · have tr : ∀ a b c : List UInt8, decide (a ≤ b) = true → decide (b ≤ c) = true → decide (a ≤ c) = true := fun a b c h1 h2 => by simp only [decide_eq_true_eq] at *; exact List.le_trans h1 h2
    have tot : ∀ a b : List UInt8, (decide (a ≤ b) || decide (b ≤ a)) = true := fun a b => by simp only [Bool.or_eq_true, decide_eq_true_eq]; exact List.le_total a b
    exact (List.pairwise_mergeSort tr tot (l.map Prod.fst)).imp (fun h => by simpa using h)
  · rw [List.pairwise_map]
    exact h.imp (fun h => List.le_of_lt h)
theorem rowsL_srt {l : List RowD} (h : Srt l) : rowsL l = l := by
  unfold rowsL
  rw [keys_sorted h, List.map_map]
  conv => rhs; rw [← List.map_id l]
  apply List.map_congr_left
  intro r hr
  show (r.1, valOf l r.1) = r
  rw [valOf_mem h.nodup hr]
theorem valOf_not {l : List RowD} {k : List UInt8} (h : hasK l k = false) : valOf l k = [] := by
  unfold valOf
  cases e : l.find? (fun r => r.1 == k) with
  | none => rfl
  | some r =>
    have h1 := List.find?_some e
    have h2 := List.mem_of_find?_eq_some e
    have : hasK l k = true := hasK_mem.2 (List.mem_map.2 ⟨r, h2, by simpa using h1⟩)
    rw [this] at h
    cases h
theorem mem_val {l : List RowD} (hn : (l.map Prod.fst).Nodup) {k : List UInt8} (h : hasK l k = true) : (k, valOf l k) ∈ l := by
  obtain ⟨r, hr, rfl⟩ := List.mem_map.1 (hasK_mem.1 h)
  rw [valOf_mem hn hr]
  exact hr
end Go.Proofs.Ytnhfeoniiadjfaa.Lst
/- Maps of rows as a table keeps them: a map whose content is a sorted list of rows. -/
namespace Go.Proofs.Ytnhfeoniiadjfaa.Lst
open Go.RowKit Go.Maps Go.Sort Go.Proofs.Ytnhfeoniiadjfaa.K Go.Proofs.Ytnhfeoniiadjfaa.Help Go.Proofs.Ytnhfeoniiadjfaa.Pfx
set_option linter.unusedVariables false

def RH (v : Value) : Option (DataW Value × List MemPlace) := some (.held v, [])
abbrev hvV (B : Option Addr) (n c : Nat) : Value := .agg #[.slice B n c]
structure HoldsL (w : World) (D : DataW Value) (l : List RowD) : Prop where
  srt : Srt l
  has_ : ∀ k, has D (.string k) = hasK l k
  at_ : ∀ r, r ∈ l → ∃ B c, (∀ z, D.atKey (.string r.1) z = .held (hvV B r.2.length c)) ∧ Bs w B c r.2
  len : ∀ r, r ∈ l → r.1.length ≤ 140737488355328
def TMap (w : World) (b n : Nat) (l : List RowD) : Prop := ∃ D, w.ownsMap Try.prog 9 RH b n D ∧ HoldsL w D l
theorem u_tmap : Try.prog.underlying 57 = some (.map 9 102) := by kernel_rfl
theorem z_held (w : World) : (zeroValue 102).run Try.prog w = .ok (hvV none 0 0) w := by simp [Try.zeroValue102]
section
variable {w w' : World} {b n : Nat} {l : List RowD} {D : DataW Value}
theorem HoldsL.bs (h : HoldsL w D l) (f : ∀ {B c v}, Bs w B c v → Bs w' B c v) : HoldsL w' D l := ⟨h.srt, h.has_, fun r hr => by
  obtain ⟨B, c, e, s⟩ := h.at_ r hr
  exact ⟨B, c, e, f s⟩, h.len⟩
theorem TMap.lt (h : TMap w b n l) : b < w.heap.size := by obtain ⟨D, h, _⟩ := h; exact h.lt
theorem TMap.srt (h : TMap w b n l) : Srt l := by obtain ⟨D, _, h⟩ := h; exact h.srt
theorem owns_blk {D : DataW Value} (h : w.ownsMap Try.prog 9 RH b n D) (hb : w'.heap[b]? = w.heap[b]?) : w'.ownsMap Try.prog 9 RH b n D := by
  obtain ⟨es, clock, hh, r⟩ := h
  exact ⟨es, clock, hb.trans hh, r⟩
theorem TMap.keep (h : TMap w b n l) (hb : Below w.heap.size w w') : TMap w' b n l := by
  have hlt := h.lt
  obtain ⟨D, h1, h2⟩ := h
  exact ⟨D, owns_blk h1 (hb.block _ hlt), h2.bs (fun s => s.below hb)⟩
theorem TMap.only {T : Nat → Prop} (h : TMap w b n l) (k : Only w w' T) (hT : ¬ T b) (hN : ∀ i, T i → i < w.heap.size → NoU8 w i) : TMap w' b n l := by
  have hlt := h.lt
  obtain ⟨D, h1, h2⟩ := h
  exact ⟨D, owns_blk h1 (k.block _ hlt hT), h2.bs (fun s => bs_only s k hN)⟩
theorem TMap.noU8 (h : TMap w b n l) : NoU8 w b := by
  obtain ⟨D, ⟨es, clock, hh, _⟩, _⟩ := h
  intro j x e
  simp [World.cell?, hh] at e
theorem TMap.made (w : World) : TMap (w.alloc (.map #[] 0)) w.heap.size 0 [] := ⟨_, World.ownsMap_made w _ _ _, srt_nil, fun k => rfl, (fun r hr => by cases hr), (fun r hr => by cases hr)⟩
theorem TMap.more (h : TMap w b n l) {n' : Nat} (hn : n ≤ n') : TMap w b n' l := by
  obtain ⟨D, h1, h2⟩ := h
  exact ⟨D, h1.mono hn, h2⟩
theorem TMap.size (h : w.ownsMap Try.prog 9 RH b n D) (h2 : HoldsL w D l) : Maps.size D = l.length := by
  obtain ⟨es, hD, hpw, _⟩ := h.entries K_str
  obtain ⟨es', hD', hko⟩ := h.keysOf
  obtain rfl : es = es' := by rw [hD] at hD'; simpa using hD'
  have hp := perm_strKeys hpw (fun p hp => by obtain ⟨v, hv⟩ := hko p hp; obtain ⟨x, _, hx, _⟩ := Maps.keyOf_str u_str hv; exact ⟨x, hx⟩) h2.srt.nodup (fun x => by rw [← hD, h2.has_, hasK_mem])
  have := hp.length_eq
  rw [hD]
  simpa [strKeys, Maps.size] using this.symm
theorem TMap.len_le (h : TMap w b n l) : l.length ≤ n := by
  obtain ⟨D, h1, h2⟩ := h
  have h3 := h1.size_le
  rwa [TMap.size h1 h2] at h3
theorem TMap.keys (h : w.ownsMap Try.prog 9 RH b n D) (h2 : HoldsL w D l) : (l.map Prod.fst).Perm (strKeys D) := by
  obtain ⟨es, hD, hpw, _⟩ := h.entries K_str
  obtain ⟨es', hD', hko⟩ := h.keysOf
  obtain rfl : es = es' := by rw [hD] at hD'; simpa using hD'
  rw [hD]
  exact perm_strKeys hpw (fun p hp => by obtain ⟨v, hv⟩ := hko p hp; obtain ⟨x, _, hx, _⟩ := Maps.keyOf_str u_str hv; exact ⟨x, hx⟩) h2.srt.nodup (fun x => by rw [← hD, h2.has_, hasK_mem])
theorem HoldsL.look (h : HoldsL w D l) (k : List UInt8) : ∃ B c, D.atKey (.string k) (.held (hvV none 0 0)) = .held (hvV B (valOf l k).length c) ∧ Bs w B c (valOf l k) := by
  cases hk : hasK l k with
  | true =>
    obtain ⟨B, c, e, s⟩ := h.at_ _ (mem_val h.srt.nodup hk)
    exact ⟨B, c, e _, s⟩
  | false =>
    rw [valOf_not hk]
    refine ⟨none, 0, ?_, Bs.nil _ _ _⟩
    rw [atKey_of_not_has (by rw [h.has_]; exact hk)]
    rfl
theorem HoldsL.put (h : HoldsL w D l) (hD : IsMap D) (k v : List UInt8) (hkl : k.length ≤ 140737488355328) {B : Option Addr} {c : Nat} (s : Bs w B c v) : HoldsL w (D.put (.string k) (.held (hvV B v.length c))) (setR l k v) := by
  refine ⟨h.srt.set k v, fun q => ?_, fun r hr => ?_, fun r hr => (mem_setR.1 hr).elim (fun e => by rw [e]; exact hkl) (fun h2 => h.len r h2.1)⟩
  · by_cases e : q = k
    · subst e
      rw [has_put_same hD (k := .string q) (by simp [WideAt.IsKeyLit])]
      exact (hasK_mem.2 (List.mem_map.2 ⟨(q, v), mem_setR.2 (.inl rfl), rfl⟩)).symm
    · rw [has_put_other (by intro h; injection h with h; exact e h), h.has_, Bool.eq_iff_iff, hasK_mem, hasK_mem, List.mem_map, List.mem_map]
      constructor
      · rintro ⟨r, hr, rfl⟩; exact ⟨r, mem_setR.2 (.inr ⟨hr, e⟩), rfl⟩
      · rintro ⟨r, hr, rfl⟩
        rcases mem_setR.1 hr with rfl | ⟨h1, _⟩
        · exact absurd rfl e
        · exact ⟨r, h1, rfl⟩
  · rcases mem_setR.1 hr with rfl | ⟨h1, h2⟩
    · exact ⟨B, c, fun z => atKey_put_same hD (k := .string k) (by simp [WideAt.IsKeyLit]) _ _, s⟩
    · obtain ⟨B', c', e, s'⟩ := h.at_ r h1
      exact ⟨B', c', fun z => by rw [atKey_put_other (by intro h; injection h with h; exact h2 h)]; exact e z, s'⟩
theorem HoldsL.del (h : HoldsL w D l) (k : List UInt8) : HoldsL w (D.del (.string k)) (delR l k) := by
  refine ⟨h.srt.del k, fun q => ?_, fun r hr => ?_, fun r hr => h.len r (mem_delR.1 hr).1⟩
  · by_cases e : q = k
    · subst e
      rw [has_del_same]
      symm
      cases hh : hasK (delR l q) q with
      | false => rfl
      | true =>
        obtain ⟨r, hr, e⟩ := List.mem_map.1 (hasK_mem.1 hh)
        exact absurd e (mem_delR.1 hr).2
    · rw [has_del_other (by intro h; injection h with h; exact e h), h.has_, Bool.eq_iff_iff, hasK_mem, hasK_mem, List.mem_map, List.mem_map]
      constructor
      · rintro ⟨r, hr, rfl⟩; exact ⟨r, mem_delR.2 ⟨hr, e⟩, rfl⟩
      · rintro ⟨r, hr, rfl⟩; exact ⟨r, (mem_delR.1 hr).1, rfl⟩
  · obtain ⟨h1, h2⟩ := mem_delR.1 hr
    obtain ⟨B', c', e, s'⟩ := h.at_ r h1
    exact ⟨B', c', fun z => by rw [atKey_del_other (by intro h; injection h with h; exact h2 h)]; exact e z, s'⟩
end
theorem key_str {k : List UInt8} (hk : k.length ≤ maxLen) : keyOf Try.prog 9 (.string ⟨k.toArray⟩) = some (.string k) := by
  simpa using WideMaps.keyOf_string_mk u_str (s := ⟨k.toArray⟩) (by simpa [ByteArray.size] using hk)
section
variable {ops : Array Oper} {rest : List Oper} {o : Oper} {a : Act} {Q : Exit → Act → World → Prop} {w : World} {b n : Nat} {l : List RowD}
theorem tlook_ok (hg : o.guard = none) (m x : Operand) (hop : o.op = Op.lookup 57 m x true) (hm : a.eval m = .map (some b)) (h : TMap w b n l) (k : List UInt8) (hx : a.eval x = .string ⟨k.toArray⟩) (hk : k.length ≤ maxLen)
    (hK : ∀ B c, Bs w B c (valOf l k) → wpList Try.prog ops Q rest (a.put o.dst (.tuple #[.agg #[.slice B (valOf l k).length c], .bool (hasK l k)])) w) : wpList Try.prog ops Q (o :: rest) a w := by
  obtain ⟨D, h1, h2⟩ := h
  refine wpList_lookup_own_ok w hg m x _ hop _ _ K_str u_tmap RH (z_held w) (.held (hvV none 0 0)) [] rfl b _ _ hm h1 _ (.string k) hx (key_str hk) (fun v ps hv => ?_)
  obtain ⟨B, c, e, s⟩ := h2.look k
  rw [e] at hv
  unfold RH at hv
  injection hv with hv
  injection hv with hv
  injection hv with hv
  rw [hv, h2.has_]
  exact hK B c s
theorem tlook_v (hg : o.guard = none) (m x : Operand) (hop : o.op = Op.lookup 57 m x false) (hm : a.eval m = .map (some b)) (h : TMap w b n l) (k : List UInt8) (hx : a.eval x = .string ⟨k.toArray⟩) (hk : k.length ≤ maxLen)
    (hK : ∀ B c, Bs w B c (valOf l k) → wpList Try.prog ops Q rest (a.put o.dst (.agg #[.slice B (valOf l k).length c])) w) : wpList Try.prog ops Q (o :: rest) a w := by
  obtain ⟨D, h1, h2⟩ := h
  refine wpList_plain hg fun K' hK' => ?_
  obtain ⟨v, ps, hrun, hv⟩ := h1.lookup K_str u_tmap (z_held w) (zd := .held (hvV none 0 0)) (zp := []) rfl (key := .string ⟨k.toArray⟩) (kl := .string k) (key_str hk)
  obtain ⟨B, c, e, s⟩ := h2.look k
  rw [e] at hv
  unfold RH at hv
  injection hv with hv
  injection hv with hv
  injection hv with hv
  subst hv
  unfold Oper.wp
  simp [execOp, hop, hm, hx, hrun, Result.andThen]
  exact hK' _ _ (hK B c s)
theorem tstore (hg : o.guard = none) (m x v : Operand) (hop : o.op = Op.mapUpdate 57 m x v) (hm : a.eval m = .map (some b)) (h : TMap w b n l) (k : List UInt8) (hx : a.eval x = .string ⟨k.toArray⟩) (hk : k.length ≤ 140737488355328)
    (hn : n ≤ 1000000) (B : Option Addr) (c : Nat) (vv : List UInt8) (hv : a.eval v = .agg #[.slice B vv.length c]) (s : Bs w B c vv)
    (hK : ∀ w', TMap w' b (n + 1) (setR l k vv) → Only w w' (fun i => i = b) → wpList Try.prog ops Q rest (a.put o.dst undef) w') : wpList Try.prog ops Q (o :: rest) a w := by
  have hno := h.noU8
  obtain ⟨D, h1, h2⟩ := h
  refine wpList_mapUpdate_own w hg m x v _ hop _ _ K_str u_tmap RH b _ _ hm h1 (by unfold maxLen; omega) _ (hvV B vv.length c) (.string k) hx hv (key_str (by simp only [maxLen]; omega)) (.held (hvV B vv.length c)) [] rfl (fun w' hown hgr => ?_)
  have k1 : Only w w' (fun i => i = b) := (Only.refl w _).grown hgr (fun k hk => by injection hk with hk; exact .inl hk.symm)
  exact hK w' ⟨_, hown, (h2.put h1.isMap k vv hk s).bs (fun s => bs_only s k1 (fun i hi _ => by rw [hi]; exact hno))⟩ k1
theorem tdel (hg : o.guard = none) (m x : Operand) (hop : o.op = Op.call { callee := Callee.builtin Builtin.delete, args := #[m, x], argTypes := #[57, 9] }) (hm : a.eval m = .map (some b)) (h : TMap w b n l) (k : List UInt8) (hx : a.eval x = .string ⟨k.toArray⟩) (hk : k.length ≤ maxLen)
    (hK : ∀ w', TMap w' b n (delR l k) → Only w w' (fun i => i = b) → wpList Try.prog ops Q rest (a.put o.dst (.tuple #[])) w') : wpList Try.prog ops Q (o :: rest) a w := by
  have hno := h.noU8
  obtain ⟨D, h1, h2⟩ := h
  refine wpList_delete_own w hg m x _ _ hop _ K_str u_tmap RH b _ _ hm h1 _ (.string k) hx (key_str hk) (fun w' hown ht => ?_)
  have k1 : Only w w' (fun i => i = b) := (Only.refl w _).grown ht.grown (fun k hk => by injection hk with hk; exact .inl hk.symm)
  exact hK w' ⟨_, hown, (h2.del k).bs (fun s => bs_only s k1 (fun i hi _ => by rw [hi]; exact hno))⟩ k1
theorem tlen (hg : o.guard = none) (m : Operand) (hop : o.op = Op.call { callee := Callee.builtin Builtin.len, args := #[m], argTypes := #[57] }) (hm : a.eval m = .map (some b)) (h : TMap w b n l)
    (hK : wpList Try.prog ops Q rest (a.put o.dst (.int .i64 l.length)) w) : wpList Try.prog ops Q (o :: rest) a w := by
  obtain ⟨D, h1, h2⟩ := h
  refine wpList_len_own w hg m _ hop _ _ u_tmap RH b _ _ hm h1 ?_
  rw [TMap.size h1 h2]
  exact hK
end
end Go.Proofs.Ytnhfeoniiadjfaa.Lst
/- slices.Clone and slices.Compare of bytes. -/
namespace Go.Proofs.Ytnhfeoniiadjfaa.Lst
open Go.RowKit Go.Proofs.Ytnhfeoniiadjfaa.K Go.Proofs.Ytnhfeoniiadjfaa.Help Go.Proofs.Ytnhfeoniiadjfaa.Pfx
set_option linter.unusedVariables false

section
variable {ops : Array Oper} {rest : List Oper} {o : Oper} {a : Act} {Q : Exit → Act → World → Prop}
/-- append(v, m...), m at an address, empty or not -/
theorem push_at {B : Nat} {W : World} (hgd : o.guard = none) (s x : Operand)
    (ho : o.op = .call { callee := .builtin .append, args := #[s, x], argTypes := #[27, 27] })
    (v : Value) (l m : List UInt8) (ad : Addr) (mc : Nat) (hs : a.eval s = v) (hx : a.eval x = .slice (some ad) m.length mc)
    (HO : Own W B v l) (HM : Bs W (some ad) mc m) (hBW : B ≤ W.heap.size) (hl : l.length + m.length ≤ 140737488355328)
    (h : ∀ A' c' w1, Own w1 B (.slice A' (l ++ m).length c') (l ++ m) → Only W w1 (fun k => v.ownBlock = some k) → wpList Try.prog ops Q rest (a.put o.dst (.slice A' (l ++ m).length c')) w1) :
    wpList Try.prog ops Q (o :: rest) a W := by
  obtain ⟨i0, hi, hzz⟩ := Option.map_eq_some_iff.1 info_u8
  simp only [Prod.mk.injEq] at hzz
  obtain ⟨hz0, hz1, hz2⟩ := hzz
  refine wpList_append_own_at W hgd s x _ ho B 5 i0 (.int .u8 0) 1 1 Try.underlying27 hi hz0 hz1 hz2 rfl (by omega) v l.length (u8s l) hs HO.1 ad m.length mc (u8s m) hx (by rw [u8s_len]; omega)
    (HM.cells rfl) (by intro u hu; simp only [u8s, u8, List.mem_map] at hu; obtain ⟨q, _, rfl⟩ := hu; rfl) (by simp only [maxLen]; omega) (by omega) hBW ?_
  intro v1 w1 hown hg _ hat
  have hO : Own w1 B v1 (l ++ m) := by
    refine ⟨?_, by simp; omega⟩
    rw [u8s_app]; simpa using hown
  obtain ⟨A', c', rfl, _⟩ := hO.bs
  exact h A' c' w1 hO ((Only.refl W (fun k => v.ownBlock = some k)).grown hg (fun k hk => .inl hk))
end
def RetC (w : World) (l : List UInt8) (e : Ending) (w' : World) : Prop := ∃ B d, e = .returned (.slice B l.length d) ∧ Bs w' B d l ∧ Below w.heap.size w w' ∧ Nw w B
set_option maxRecDepth 100000 in
theorem clone_any (A : Option Addr) (c : Nat) (l : List UInt8) (w : World) (h : Bs w A c l) : Calls Try.prog 56 #[.slice A l.length c] w (RetC w l) := by
  have hnil := Lib.run_eql_slice_nil (P := Try.prog) w 27 5 A l.length c 0 0 u_slice8
  rcases A with _ | ad
  · have h0 : l = [] := by
      rcases l with _ | ⟨x, r⟩
      · rfl
      · obtain ⟨ad, h', _⟩ := h.at_ 0 (by simp)
        cases h'
    subst h0
    clear h
    simp only [List.length_nil] at hnil ⊢
    go_enter Try.func56, Try.ntmps56
    go_wp2_with fail
    go_ret
    exact ⟨none, 0, rfl, Bs.nil _ _ _, Below.refl _ _, Nw.none _⟩
  · have hb := below_alloc (Below.refl w.heap.size w) (.cells #[] 5)
    have O1 := Lib.hid (Blk.own (base := w.heap.size) (w := w.alloc (.cells #[] 5)) (g := w.heap.size) (l := []) (blk_new w _) (Nat.le_refl _) (by simp))
    have S1 := Lib.hid (h.below hb)
    have HB := Lib.hid hb
    have hmx := Lib.hid h.max
    have hle := Lib.hid h.le
    clear h hb
    generalize hn : l.length = n at *
    have HN := Lib.hid hn
    clear hn
    go_enter Try.func56, Try.ntmps56
    go_wp2_with (at_builtin; refine push_at (B := w.heap.size) rfl (.tmp 5) (.tmp 6) rfl (.slice (some ⟨w.heap.size, 0, none⟩) 0 0) [] l ad c rfl (by rw [HN.out]; rfl) O1.out S1.out HB.out.size (by have := hmx.out; have := HN.out; simp; omega) ?_; intro A2 c2 w2 o2 k2; have O2 := Lib.hid o2; have W2 := Lib.hid (below_only HB.out k2 (fun i hi => O1.out.base_le hi)); clear o2 k2)
    go_ret
    obtain ⟨A3, c3, e3, s3⟩ := O2.out.bs
    cases e3
    exact ⟨A2, c2, by simp, by simpa using s3, W2.out, Own.nw (w := w) O2.out (Nat.le_refl _)⟩
theorem nanByte (a : Int) (w : World) : Calls Try.prog 91 #[.int .u8 a] w fun e w' => e = .returned (.bool false) ∧ w = w' := by
  go_enter Try.func91, Try.ntmps91
  go_wp2_with fail
  go_ret
  exact ⟨rfl, rfl⟩
theorem cmpByte_any (a b : Int) (w : World) : Calls Try.prog 78 #[.int .u8 a, .int .u8 b] w fun e w' => e = .returned (.int .i64 (ord a b)) ∧ w = w' := by
  rcases ord_cases a b with ⟨h1, e⟩ | ⟨h1, h2, e⟩ | ⟨h1, h2, e⟩
  all_goals
    rw [e]
    clear e
    go_enter Try.func78, Try.ntmps78
    go_wp2_with (go_at_call 91; refine (nanByte _ _).mono ?_; rintro e w' ⟨rfl, rfl⟩)
    go_ret
    exact ⟨rfl, rfl⟩
theorem cmpb_nil (l : List UInt8) : Lib.compareBytes [] l = if l.length = 0 then 0 else -1 := by cases l <;> simp [Lib.compareBytes]
theorem cmpb_step {l m : List UInt8} {k : Nat} (hl : k < l.length) (hm : k < m.length) : Lib.compareBytes (l.drop k) (m.drop k) = if ord ((l.getD k 0).toNat : Int) ((m.getD k 0).toNat : Int) = 0 then Lib.compareBytes (l.drop (k + 1)) (m.drop (k + 1)) else ord ((l.getD k 0).toNat : Int) ((m.getD k 0).toNat : Int) := by
  rw [List.drop_eq_getElem_cons hl, List.drop_eq_getElem_cons hm]
  have e1 : l.getD k 0 = l[k] := by simp [hl]
  have e2 : m.getD k 0 = m[k] := by simp [hm]
  rw [e1, e2, show Lib.compareBytes (l[k] :: l.drop (k + 1)) (m[k] :: m.drop (k + 1)) = if l[k] < m[k] then -1 else if m[k] < l[k] then 1 else Lib.compareBytes (l.drop (k + 1)) (m.drop (k + 1)) from rfl]
  unfold ord
  by_cases h1 : l[k] < m[k]
  · have : (l[k].toNat : Int) < (m[k].toNat : Int) := by have := UInt8.lt_iff_toNat_lt.1 h1; omega
    rw [if_pos h1, if_pos this]
    simp
  · have n1 : ¬ (l[k].toNat : Int) < (m[k].toNat : Int) := fun h => h1 (UInt8.lt_iff_toNat_lt.2 (by omega))
    rw [if_neg h1, if_neg n1]
    by_cases h2 : m[k] < l[k]
    · have : (m[k].toNat : Int) < (l[k].toNat : Int) := by have := UInt8.lt_iff_toNat_lt.1 h2; omega
      rw [if_pos h2, if_pos this]
      simp
    · have n2 : ¬ (m[k].toNat : Int) < (l[k].toNat : Int) := fun h => h2 (UInt8.lt_iff_toNat_lt.2 (by omega))
      rw [if_neg h2, if_neg n2]
      simp
set_option maxRecDepth 100000 in
set_option maxHeartbeats 1000000 in
theorem sliceCmp_any (A B : Option Addr) (c d : Nat) (l m : List UInt8) (w : World) (ha : Bs w A c l) (hb : Bs w B d m) :
    Calls Try.prog 61 #[.slice A l.length c, .slice B m.length d] w (fun e w' => e = .returned (.int .i64 (Lib.compareBytes l m)) ∧ w = w') := by
  have HA := Lib.hid ha
  have HB := Lib.hid hb
  have l1 := ha.le
  have l2 := ha.max
  have l3 := hb.le
  have l4 := hb.max
  clear ha hb
  generalize hr : Lib.compareBytes l m = res
  have HR := Lib.hid hr
  generalize hn : l.length = n at *
  have HN := Lib.hid hn
  generalize hm : m.length = q at *
  have HM := Lib.hid hm
  clear hr hn hm
  go_enter Try.func61, Try.ntmps61
  go_wp2_with fail
  go_loopg [11] n (fun gk i wr => ∃ k : Nat, k ≤ n ∧ gk = n - k ∧ i = .int .i64 (k : Int) ∧ Hid (k ≤ q) ∧ Hid (res = Lib.compareBytes (l.drop k) (m.drop k)) ∧ Hid (w = wr))
  case atStart => exact ⟨0, by omega, rfl, rfl, by simp [Hid], HR.out.symm, rfl⟩
  case round =>
    obtain ⟨k, hk, rfl, rfl, HK, HE, HW⟩ := hrel
    obtain rfl := HW.out
    clear HW
    by_cases hlt : k < n
    · have i1 : (k : Int) < (n : Int) := by omega
      have i0 : (0 : Int) ≤ (k : Int) := by omega
      obtain ⟨ad, rfl, hbk, c0⟩ := HA.out.at_ k (by rw [HN.out]; exact hlt)
      by_cases hq : k < q
      · obtain ⟨bd, rfl, hbk2, c1⟩ := HB.out.at_ k (by rw [HM.out]; exact hq)
        have j1 : decide ((q : Int) ≤ (k : Int)) = false := by rw [decide_eq_false_iff_not]; omega
        have j2 : (k : Int) < (q : Int) := by omega
        have HS := Lib.hid (cmpb_step (l := l) (m := m) (k := k) (by rw [HN.out]; exact hlt) (by rw [HM.out]; exact hq))
        clear hbk hbk2
        have CB := Lib.hid (fun W => cmpByte_any ((l.getD k 0).toNat : Int) ((m.getD k 0).toNat : Int) W)
        generalize ord ((l.getD k 0).toNat : Int) ((m.getD k 0).toNat : Int) = od at *
        by_cases h0 : od = 0
        · subst h0
          have HE2 : Hid (res = Lib.compareBytes (l.drop (k + 1)) (m.drop (k + 1))) := by rw [Hid, HE.out, HS.out, if_pos rfl]
          go_wp2_with fail
          refine (CB.out _).mono ?_
          rintro e w' ⟨rfl, rfl⟩
          go_wp2_with fail
          go_roundg (n - (k + 1))
          case measure => omega
          case rel => exact ⟨k + 1, by omega, rfl, by go_num, by rw [Hid]; omega, HE2, rfl⟩
        · have HE2 : Hid (res = od) := by rw [Hid, HE.out, HS.out, if_neg h0]
          have h1 : (od != 0) = true := by simpa using h0
          go_wp2_with fail
          refine (CB.out _).mono ?_
          rintro e w' ⟨rfl, rfl⟩
          go_wp2_with fail
          go_ret
          exact ⟨by rw [HE2.out]; rfl, rfl⟩
      · have hq2 : k = q := by have := HK.out; omega
        have j1 : (q : Int) ≤ (k : Int) := by omega
        have HE2 : Hid (res = 1) := by
          have e0 : m.drop k = [] := List.drop_eq_nil_of_le (by rw [HM.out]; omega)
          rw [Hid, HE.out, e0, List.drop_eq_getElem_cons (by rw [HN.out]; exact hlt)]
          rfl
        clear hbk hq hq2
        go_wp2_with fail
        go_ret
        exact ⟨by rw [HE2.out]; rfl, rfl⟩
    · obtain rfl : k = n := by omega
      have i1 : ¬ (k : Int) < (k : Int) := by omega
      have HE2 : Hid (res = if m.length - k = 0 then 0 else -1) := by
        have e0 : l.drop k = [] := List.drop_eq_nil_of_le (by rw [HN.out]; omega)
        rw [Hid, HE.out, e0, cmpb_nil, List.length_drop]
      by_cases hq : k < q
      · have j1 : (k : Int) < (q : Int) := by omega
        have HE3 : Hid (res = -1) := by rw [Hid, HE2.out, if_neg (by rw [HM.out]; omega)]
        go_wp2_with fail
        go_ret
        exact ⟨by rw [HE3.out]; rfl, rfl⟩
      · have j1 : ¬ (k : Int) < (q : Int) := by omega
        have HE3 : Hid (res = 0) := by rw [Hid, HE2.out, if_pos (by rw [HM.out]; omega)]
        go_wp2_with fail
        go_ret
        exact ⟨by rw [HE3.out]; rfl, rfl⟩
end Go.Proofs.Ytnhfeoniiadjfaa.Lst
/- lay, Get, keys. -/
namespace Go.Proofs.Ytnhfeoniiadjfaa.Lst
open Go.RowKit Go.Maps Go.Sort Go.Proofs.Ytnhfeoniiadjfaa.K Go.Proofs.Ytnhfeoniiadjfaa.Help Go.Proofs.Ytnhfeoniiadjfaa.Pfx
set_option linter.unusedVariables false

/-- m[k] = v as a run -/
theorem tstore_run {w : World} {b n : Nat} {l : List RowD} (h : TMap w b n l) (k : List UInt8) (hk : k.length ≤ 140737488355328) (hn : n ≤ 1000000) {B : Option Addr} {c : Nat} {vv : List UInt8} (s : Bs w B c vv) :
    ∃ w', (Instr.mapUpdate 57 (.map (some b)) (.string ⟨k.toArray⟩) (.agg #[.slice B vv.length c])).run Try.prog w = .ok () w' ∧ TMap w' b (n + 1) (setR l k vv) ∧ Only w w' (fun i => i = b) := by
  have hno := h.noU8
  obtain ⟨D, h1, h2⟩ := h
  obtain ⟨w', hrun, hown, ht⟩ := h1.store K_str u_tmap (by unfold maxLen; have := h1.size_le; omega) (key := .string ⟨k.toArray⟩) (val := hvV B vv.length c) (kl := .string k) (d := .held (hvV B vv.length c)) (ps := []) (key_str (by simp only [maxLen]; omega)) rfl
  have k1 : Only w w' (fun i => i = b) := (Only.refl w _).grown ht.grown (fun k hk => by injection hk with hk; exact .inl hk.symm)
  exact ⟨w', hrun, ⟨_, hown, (h2.put h1.isMap k vv hk s).bs (fun s => bs_only s k1 (fun i hi _ => by rw [hi]; exact hno))⟩, k1⟩
def RetLay (w : World) (b n : Nat) (l : List RowD) (e : Ending) (w' : World) : Prop := e = .returned (.tuple #[]) ∧ TMap w' b n l ∧ Only w w' (fun i => i = b)
set_option maxRecDepth 100000 in
set_option maxHeartbeats 1000000 in
theorem lay_any (b n : Nat) (l : List RowD) (A C : Option Addr) (a c : Nat) (k v : List UInt8) (w : World) (h : TMap w b n l) (hk : Bs w A a k) (hv : Bs w C c v) (hn : n ≤ 1000000) :
    Calls Try.prog 54 #[.map (some b), .slice A k.length a, .slice C v.length c] w (RetLay w b (n + 1) (setR l k v)) := by
  have HT := Lib.hid h
  have HK := Lib.hid hk
  have HN := Lib.hid hn
  have hkm : k.length ≤ 140737488355328 := hk.max
  have HKM := Lib.hid hkm
  have CL := Lib.hid (clone_any C c v w.drew (hv.drewN 1))
  have s0 := str_of A a k w.drew (hk.drewN 1)
  have D0 : Hid (Below w.heap.size w w.drew) := Lib.hid (below_drewN (Below.refl w.heap.size w) 1)
  clear h hk hv hkm
  generalize hkl : k.length = kl at *
  generalize hvl : v.length = vl at *
  have HVL := Lib.hid hvl
  have HKL := Lib.hid hkl
  clear hvl hkl
  go_enter Try.func54, Try.ntmps54
  go_wp2_with fail
  go_region_held3 (fun w' => (convert 27 9 (.slice A kl a)).run Try.prog w' = .ok (.string ⟨k.toArray⟩) w') (first | exact s0 | exact s1 | exact s9 | go_keep)
    (first | (go_at_call 56; refine CL.out.mono ?_; rintro e w2 ⟨B, d, rfl, s2, hb2, -⟩; have W2 := Lib.hid (below_step D0.out hb2); have s1 := str_of A a k w2 (HK.out.below (below_step D0.out hb2)); obtain ⟨w3, hrun, t3, k3⟩ := tstore_run (HT.out.keep (below_step D0.out hb2)) k (by have := HKM.out; have := HKL.out; omega) HN.out s2; have s9 := str_of A a k w3 (bs_only (HK.out.below (below_step D0.out hb2)) k3 (fun i hi _ => by rw [hi]; exact (HT.out.keep (below_step D0.out hb2)).noU8)); have T3 := Lib.hid t3; have K3 := Lib.hid ((Only.of_below W2.out (fun i => i = b)).then_ k3 (fun i h => .inl h)); rw [HKL.out] at s1 s9; rw [HVL.out] at hrun ⊢; clear s2 hb2 t3 k3))
  all_goals
    go_wp2_with fail
    go_end0
    exact ⟨rfl, T3.out, K3.out⟩
end Go.Proofs.Ytnhfeoniiadjfaa.Lst
/- Get, keys, copied. -/
namespace Go.Proofs.Ytnhfeoniiadjfaa.Lst
open Go.RowKit Go.Maps Go.Sort Go.Shelf Go.Proofs.Ytnhfeoniiadjfaa.K Go.Proofs.Ytnhfeoniiadjfaa.Help Go.Proofs.Ytnhfeoniiadjfaa.Pfx Go.Proofs.Ytnhfeoniiadjfaa.Peer
set_option linter.unusedVariables false

set_option maxRecDepth 100000 in
set_option maxHeartbeats 1000000 in
theorem keysT_any (b n : Nat) (l : List RowD) (w : World) (hg : TMap w b n l) (hn : n ≤ 1000000) :
    Calls Try.prog 63 #[.map (some b)] w (fun e w' => ∃ A c, e = .returned (.slice A (l.map Prod.fst).length c) ∧ Lst StrE w' (fun _ => False) A c (l.map Prod.fst) ∧ Below w.heap.size w w' ∧ Nw w A) := by
  obtain ⟨i0, hi, hz⟩ := Option.map_eq_some_iff.1 info_str
  simp only [Prod.mk.injEq] at hz
  obtain ⟨hz0, hz1, hz2⟩ := hz
  have HI := Lib.hid hi
  have HZ0 := Lib.hid hz0
  have HZ1 := Lib.hid hz1
  have HZ2 := Lib.hid hz2
  clear hi hz0 hz1 hz2
  obtain ⟨D, hg1, hg2⟩ := hg
  have G := Lib.hid hg1
  have HN := Lib.hid hn
  have HS := Lib.hid hg1.size_le
  have hbl := hg1.lt
  have HBL := Lib.hid hbl
  have HK := Lib.hid (TMap.keys hg1 hg2)
  have HSR := Lib.hid hg2.srt
  clear hg1 hg2 hn hbl
  go_enter Try.func63, Try.ntmps63
  go_wp2_with (first
    | (at_range; refine wpList_range_own _ rfl _ 57 rfl 9 102 K_str u_tmap _ b _ _ rfl G.out ?_; intro w0 hrg0 hg0 hs0)
    | go_in)
  go_frame
  have HG0 := Lib.hid hg0
  have HRG0 := Lib.hid hrg0
  clear hg0 hrg0 hs0
  go_loopw [3] (fun v wr => ∃ (left : Lit → Bool) (cnt : Nat) (ss : List (List UInt8)), wr.ranges Try.prog 9 RH b w.heap.size n D left cnt ∧ Hid (ss.length + cnt ≤ Maps.size D) ∧
      wr.ownsRow w.heap.size 9 1 v ss.length (ss.map encStr) ∧ Collected D left ss ∧ Below w.heap.size w wr)
    (fun _ wr => wr.rangeLeft b w.heap.size)
  case atStart =>
    exact ⟨_, _, [], HRG0.out, by simp [Hid], ⟨by simp, .inl ⟨rfl, rfl⟩⟩, Collected.start _, (Below.refl _ _).grown HG0.out (Nat.le_refl _) (fun j hj => by cases hj)⟩
  case round =>
    obtain ⟨left, cnt, ss, hrg, hcs, hrow, hC, hnx⟩ := hrel
    go_wp2_with (first
      | (at_next; refine wpList_next_ranges _ rfl _ rfl 9 K_str RH encStr (fun v : Value => v) (fun key kl hk => by obtain ⟨x, hx, _⟩ := Maps.keyOf_str u_str hk; exact ⟨x, hx⟩) (fun v y hv => ⟨v, rfl⟩) b w.heap.size _ _ _ _ rfl hrg ?_ ?_)
      | go_in)
    · intro hc0 hl0
      have hss : ss.length ≤ 1000000 := by have h1 := hcs.out; have h2 := HS.out; have h3 := HN.out; omega
      have HKS : Hid (l.map Prod.fst = ss.mergeSort (fun x y => decide (x ≤ y))) := Lib.hid ((keys_sorted HSR.out).symm.trans (mergeSort_of_perm (HK.out.trans (hC.perm G.out K_str u_str hl0).symm)))
      clear hC hcs hrg hl0 hc0
      rcases hrow.2 with ⟨rfl, hnil⟩ | ⟨g, cap, cur, rfl, hbase, hb, h1, h2, h3, h4⟩
      · obtain rfl : ss = [] := List.eq_nil_of_length_eq_zero hnil
        have hc : Calls Try.prog 79 #[.slice none 0 0] wr _ := Any.slices_Sort_string_none layS none 0 wr
        clear hrow hss
        go_wp2_with fail
        refine hc.mono ?_
        rintro e w' ⟨rfl, rfl⟩
        have hks : l.map Prod.fst = [] := by rw [HKS.out]; simp
        go_wp2_with fail
        go_ret
        exact ⟨none, 0, by rw [hks]; rfl, by rw [hks]; exact Lst.nil _ _, hnx, Nw.none _⟩
      · have hH : Holds encStr wr g 0 ss.toArray := holds_of_block hb (by simpa using h4)
        have hgl : g < wr.heap.size := (Array.getElem?_eq_some_iff.1 hb).1
        have hc : Calls Try.prog 79 #[.slice (some ⟨g, 0, none⟩) ss.length cap] wr _ := Any.slices_Sort_string layS g 0 cap ss wr hH hgl (by omega)
        clear hH hgl h4
        go_wp2_with fail
        refine hc.mono ?_
        rintro e w' ⟨rfl, nn, os, hw⟩
        have ho := ownsRow_sorted (os := os) (n := nn) (ss := ss) (ts := ss.mergeSort (fun x y => decide (x ≤ y))) (by simp) hbase hb h1 h2 h3
        rw [← hw, ← HKS.out] at ho
        have hlen : (l.map Prod.fst).length = ss.length := by rw [HKS.out]; simp
        rw [← hlen] at ho
        have hb' := hnx.grown (grownBy_sorted (w := wr) (g := g) (n := nn) (os := os) (ss.mergeSort (fun x y => decide (x ≤ y))).toArray) hnx.size (fun j hj => by cases hj; exact hbase)
        rw [← hw] at hb'
        have HO := Lib.hid ho
        have HB := Lib.hid hb'
        have HL := Lib.hid hlen
        clear ho hb' hw hlen hbase hb h1 h2 h3 hrow hnx hc
        go_wp2_with fail
        go_ret
        have hO := own_strs HO.out (by have := HL.out; omega)
        obtain ⟨A, c, e, hl⟩ := OwnL.lst hO (fun _ _ h => h)
        rw [e] at hO
        rw [← HL.out]
        exact ⟨A, c, congrArg Ending.returned e, hl, HB.out, hO.nw (Nat.le_refl _)⟩
    · intro x c kl yd yp w2 cnt2 hkey hlk hv hat hrg2 hlt hg2 hs2 hen
      obtain ⟨x', ex, rfl, _⟩ := Maps.keyOf_str u_str hkey
      obtain rfl : x = x' := encStr_inj ex
      have hrow2 := hrow.kept hg2 (Or.inr (row_ne_iter hrow hrg).symm)
      have HC := Lib.hid hcs.out
      have HLT := Lib.hid hlt
      have HX := Lib.hid hnx
      have HG2 := Lib.hid hg2
      have HRG2 := Lib.hid hrg2
      have HRG := Lib.hid hrg
      have HCC := Lib.hid hC
      have HLK := Lib.hid hlk
      have HAT := Lib.hid hat
      have HR2 := Lib.hid hrow2
      have hb1 : ss.length + 1 ≤ 1000001 := by have h1 := hcs.out; have h2 := HS.out; have h3 := HN.out; omega
      have HB1 := Lib.hid hb1
      clear hs2 hcs hlt hnx hg2 hrg2 hrg hC hlk hat hrow2 hrow hb1 hkey hv ex
      go_wp2_with (first
        | (at_builtin; refine wpList_append_own _ rfl _ _ 109 rfl w.heap.size 9 i0 (.string ⟨#[]⟩) 1 16 Try.underlying109 HI.out HZ0.out HZ1.out HZ2.out rfl (by decide) _ _ _ rfl (HR2.out.alloc _) ⟨w2.heap.size, 0, none⟩ 1 1 [encStr x] rfl rfl (cell_one_new _ _ _) (by simp [Value.oneCell', encStr]) (by have := HB1.out; simp only [maxLen]; omega) (by have := HB1.out; omega) (by have := HX.out.size; have := HG2.out.size; simp; omega) ?_; intro v' w3 hown' hg3 hnil3; go_frame)
        | go_in)
      have hrg3 := (HRG2.out.alloc _).kept hg3 (row_ne_low HR2.out HBL.out) (row_ne_iter HR2.out HRG2.out)
      go_roundw
      case rel =>
        refine ⟨_, cnt2, ss ++ [x], hrg3, by have := HC.out; have := HLT.out; simp [Hid]; omega, by simpa using hown', HCC.out.step HLK.out HAT.out, ?_⟩
        exact ((HX.out.grown HG2.out HX.out.size (fun j hj => by cases hj; exact Nat.le_refl _)).alloc (by have := HX.out.size; have := HG2.out.size; omega) _).grown hg3 (by have := HX.out.size; have := HG2.out.size; simp; omega) (fun j hj => (HR2.out.lt j hj).1)
      case measure => rw [hrg3.left_eq, HRG.out.left_eq]; exact HLT.out
def RetG (w : World) (v : List UInt8) (ok : Bool) (e : Ending) (w' : World) : Prop := ∃ B d, e = .returned (.tuple #[.slice B v.length d, .bool ok]) ∧ Bs w' B d v ∧ Below w.heap.size w w' ∧ Nw w B
set_option maxRecDepth 100000 in
set_option maxHeartbeats 1000000 in
theorem get_any (b n : Nat) (l : List RowD) (A : Option Addr) (a : Nat) (k : List UInt8) (w : World) (h : TMap w b n l) (hk : Bs w A a k) :
    Calls Try.prog 25 #[.map (some b), .slice A k.length a] w (RetG w (valOf l k) (hasK l k)) := by
  have HT := Lib.hid h
  have hkm : k.length ≤ maxLen := by have h1 := hk.le; have h2 := hk.max; simp only [maxLen]; omega
  have HKM := Lib.hid hkm
  have s0 := str_of A a k w hk
  have HNV := Lib.hid (valOf_not (l := l) (k := k))
  clear h hk hkm
  generalize hkl : k.length = kl at *
  have HKL := Lib.hid hkl
  clear hkl
  cases hh : hasK l k with
  | false =>
    have HH := Lib.hid hh
    rw [hh] at HNV
    have HV := Lib.hid (HNV.out (by first | rfl | trivial))
    rw [HV.out]
    clear hh HNV
    go_enter Try.func25, Try.ntmps25
    go_wp2_with (at_lookup; refine tlook_ok rfl _ _ rfl rfl HT.out k rfl (by rw [HKL.out]; exact HKM.out) ?_; intro B c s1; rw [HH.out, HV.out])
    exact bodyPost_ret (v := .tuple #[.slice none 0 0, .bool false]) (by simp [results, Try.results25, go_sem]) rfl ⟨none, 0, rfl, Bs.nil _ _ _, below_alloc (Below.refl _ _) _, Nw.none _⟩
  | true =>
    have HH := Lib.hid hh
    clear hh HNV
    generalize hvv : valOf l k = vv at *
    have HVV := Lib.hid hvv
    clear hvv
    go_enter Try.func25, Try.ntmps25
    go_wp2_with (first
      | (at_lookup; refine tlook_ok rfl _ _ rfl rfl HT.out k rfl (by rw [HKL.out]; exact HKM.out) ?_; intro B c s1; rw [HH.out, HVV.out]; rw [HVV.out] at s1; have hb1 := below_alloc (Below.refl w.heap.size w) (.cells #[Value.slice B vv.length c] 102); have x0 := (blk_cell (blk_new w (.cells #[Value.slice B vv.length c] 102)) 0).trans (b := some (Value.slice B vv.length c)) rfl; have CL := Lib.hid (clone_any B c vv _ (s1.below hb1)); have HB1 := Lib.hid hb1; clear s1 hb1))
    refine CL.out.mono ?_
    rintro e w2 ⟨B2, d2, rfl, s2, hb2, n2⟩
    have S2 := Lib.hid s2
    have W2 := Lib.hid (below_step HB1.out hb2)
    have N2 := Lib.hid (n2.back HB1.out.size)
    clear s2 hb2 n2
    go_wp2_with fail
    exact bodyPost_ret (v := .tuple #[.slice B2 vv.length d2, .bool true]) (by simp [results, Try.results25, go_sem]) rfl ⟨B2, d2, rfl, S2.out, W2.out, N2.out⟩
end Go.Proofs.Ytnhfeoniiadjfaa.Lst
/- copied, New, Len, All. -/
namespace Go.Proofs.Ytnhfeoniiadjfaa.Lst
open Go.RowKit Go.Maps Go.Sort Go.Shelf Go.Proofs.Ytnhfeoniiadjfaa.K Go.Proofs.Ytnhfeoniiadjfaa.Help Go.Proofs.Ytnhfeoniiadjfaa.Pfx Go.Proofs.Ytnhfeoniiadjfaa.Peer
set_option linter.unusedVariables false

def part (l : List RowD) (ss : List (List UInt8)) : List RowD := l.filter (fun r => decide (r.1 ∈ ss))
theorem mem_part {l : List RowD} {ss : List (List UInt8)} {x : RowD} : x ∈ part l ss ↔ x ∈ l ∧ x.1 ∈ ss := by
  unfold part
  rw [List.mem_filter, decide_eq_true_eq]
theorem part_step {l : List RowD} (hl : Srt l) (ss : List (List UInt8)) {x : List UInt8} (hx : hasK l x = true) : setR (part l ss) x (valOf l x) = part l (ss ++ [x]) := by
  have h1 : Srt (part l ss) := List.Pairwise.filter _ hl
  have h2 : Srt (part l (ss ++ [x])) := List.Pairwise.filter _ hl
  refine (h1.set x _).ext h2 (fun y => ?_)
  rw [mem_setR, mem_part, mem_part, List.mem_append, List.mem_singleton]
  constructor
  · rintro (rfl | ⟨⟨h3, h4⟩, _⟩)
    · exact ⟨mem_val hl.nodup hx, .inr rfl⟩
    · exact ⟨h3, .inl h4⟩
  · rintro ⟨h3, h4⟩
    by_cases e : y.1 = x
    · refine .inl (Prod.ext e ?_)
      rw [← e, valOf_mem hl.nodup h3]
    · exact .inr ⟨⟨h3, h4.resolve_right e⟩, e⟩
theorem part_nil (l : List RowD) : part l [] = [] := by unfold part; simp
theorem part_all {l : List RowD} {ss : List (List UInt8)} (h : ∀ r, r ∈ l → r.1 ∈ ss) : part l ss = l := by
  unfold part
  rw [List.filter_eq_self]
  intro r hr
  exact decide_eq_true (h r hr)
theorem ranges_blk {w w' : World} {b r n cnt : Nat} {D : DataW Value} {left : Lit → Bool} (h : w.ranges Try.prog 9 RH b r n D left cnt) (h1 : w'.heap[b]? = w.heap[b]?) (h2 : w'.heap[r]? = w.heap[r]?) : w'.ranges Try.prog 9 RH b r n D left cnt := by
  obtain ⟨es, clock, since, seen, c0, a1, a2, a3, a4, a5, a6⟩ := h
  exact ⟨es, clock, since, seen, c0, h1.trans a1, a2, a3, a4, h2.trans a5, a6⟩
theorem ranges_noU8 {w : World} {b r n cnt : Nat} {D : DataW Value} {left : Lit → Bool} (h : w.ranges Try.prog 9 RH b r n D left cnt) : NoU8 w r := by
  obtain ⟨es, clock, since, seen, c0, a1, a2, a3, a4, a5, a6⟩ := h
  intro j x e
  simp [World.cell?, a5] at e
theorem ranges_b_lt {w : World} {b r n cnt : Nat} {D : DataW Value} {left : Lit → Bool} (h : w.ranges Try.prog 9 RH b r n D left cnt) : b < w.heap.size := h.owns.lt
/-- what a map's entry at hand holds -/
theorem HoldsL.entry {w : World} {D : DataW Value} {l : List RowD} (h : HoldsL w D l) {x : List UInt8} {c : Value} {yd : DataW Value} {yp : List MemPlace} (hv : RH c = some (yd, yp)) (hat : ∀ zd, D.atKey (.string x) zd = yd) :
    hasK l x = true ∧ ∃ B d, c = hvV B (valOf l x).length d ∧ Bs w B d (valOf l x) := by
  have hh : hasK l x = true := by rw [← h.has_]; exact has_true_of_atKey hat
  obtain ⟨B, d, e, s⟩ := h.at_ _ (mem_val h.srt.nodup hh)
  unfold RH at hv
  injection hv with hv
  injection hv with hv _
  have e2 := (hat (.map [])).symm.trans (e (.map []))
  rw [← hv] at e2
  injection e2 with e2
  exact ⟨hh, B, d, e2, s⟩
def RetK (w : World) (l : List RowD) (e : Ending) (w' : World) : Prop := ∃ b, e = .returned (.map (some b)) ∧ w.heap.size ≤ b ∧ TMap w' b l.length l ∧ Below w.heap.size w w'
set_option maxRecDepth 100000 in
set_option maxHeartbeats 2000000 in
theorem copied_any (b n : Nat) (l : List RowD) (w : World) (h : TMap w b n l) (hn : n ≤ 100000) :
    Calls Try.prog 58 #[.map (some b)] w (RetK w l) := by
  obtain ⟨W1, hW1⟩ : ∃ W1, W1 = w.alloc (.map #[] 0) := ⟨_, rfl⟩
  have HB1 : Hid (Below w.heap.size w W1) := by rw [Hid, hW1]; exact below_alloc (Below.refl _ _) _
  have M1 : Hid (TMap W1 w.heap.size 0 []) := by rw [Hid, hW1]; exact TMap.made w
  have HBL := Lib.hid h.lt
  obtain ⟨D, h1, h2⟩ := h.keep HB1.out
  have G := Lib.hid h1
  have HL := Lib.hid h2
  have HS := Lib.hid h1.size_le
  have HN := Lib.hid hn
  have HSZ : Hid (W1.heap.size = w.heap.size + 1) := by rw [Hid, hW1]; simp
  have hmk : (Instr.makeMap 57 none).run Try.prog w = .ok (.map (some w.heap.size)) W1 := by rw [hW1]; rfl
  clear h h1 h2 hn hW1
  go_enter Try.func58, Try.ntmps58
  go_wp2_with (first
    | (at_range; refine wpList_range_own _ rfl _ 57 rfl 9 102 K_str u_tmap _ b _ _ rfl G.out ?_; intro w0 hrg0 hg0 hs0)
    | go_in)
  go_frame
  have HG0 := Lib.hid ((Below.refl W1.heap.size W1).grown hg0 (Nat.le_refl _) (fun j hj => by cases hj))
  have HRG0 := Lib.hid hrg0
  clear hg0 hrg0 hs0 hmk
  go_loopw [4] (fun v wr => ∃ (left : Lit → Bool) (cnt : Nat) (ss : List (List UInt8)), wr.ranges Try.prog 9 RH b W1.heap.size n D left cnt ∧ Hid (ss.length + cnt ≤ Maps.size D) ∧
      Hid (TMap wr w.heap.size ss.length (part l ss)) ∧ Collected D left ss ∧ Hid (Below w.heap.size w wr) ∧ Hid (HoldsL wr D l))
    (fun _ wr => wr.rangeLeft b W1.heap.size)
  case atStart =>
    exact ⟨_, _, [], HRG0.out, by simp [Hid], by rw [Hid, part_nil]; exact M1.out.keep HG0.out, Collected.start _, below_step HB1.out HG0.out, HL.out.bs (fun s => s.below HG0.out)⟩
  case round =>
    obtain ⟨left, cnt, ss, hrg, hcs, hm, hC, hnx, hhl⟩ := hrel
    have hrl : W1.heap.size = w.heap.size + 1 := HSZ.out
    have HRL := Lib.hid hrl
    clear hrl
    go_wp2_with (first
      | (at_next; refine wpList_next_ranges _ rfl _ rfl 9 K_str RH encStr (fun v : Value => v) (fun key kl hk => by obtain ⟨x, hx, _⟩ := Maps.keyOf_str u_str hk; exact ⟨x, hx⟩) (fun v y hv => ⟨v, rfl⟩) b W1.heap.size _ _ _ _ rfl hrg ?_ ?_)
      | go_in)
    · intro hc0 hl0
      have hp := hC.perm G.out K_str u_str hl0
      have hp2 := TMap.keys G.out HL.out
      have hlen : ss.length = l.length := by rw [hp.length_eq, ← hp2.length_eq, List.length_map]
      have hall : part l ss = l := part_all (fun r hr => (hp.trans hp2.symm).mem_iff.2 (List.mem_map.2 ⟨r, hr, rfl⟩))
      have HM : Hid (TMap wr w.heap.size l.length l) := by have := hm.out; rwa [hlen, hall] at this
      clear hp hp2 hlen hall hC hcs hrg hl0 hc0 hm hhl
      go_wp2_with fail
      go_ret
      exact ⟨w.heap.size, rfl, Nat.le_refl _, HM.out, hnx.out⟩
    · intro x c kl yd yp w2 cnt2 hkey hlk hv hat hrg2 hlt hg2 hs2 hen
      obtain ⟨x', ex, rfl, _⟩ := Maps.keyOf_str u_str hkey
      obtain rfl : x = x' := encStr_inj ex
      have k2 : Only wr w2 (fun i => i = W1.heap.size) := (Only.refl wr _).grown hg2 (fun k hk => by injection hk with hk; exact .inl hk.symm)
      have hno := ranges_noU8 hrg
      have hhl2 := hhl.out.bs (fun s => bs_only s k2 (fun i hi _ => by rw [hi]; exact hno))
      have hm2 := hm.out.only k2 (by rw [HRL.out]; omega) (fun i hi _ => by rw [hi]; exact hno)
      have hb2 := below_only hnx.out k2 (fun i hi => by rw [hi, HRL.out]; omega)
      obtain ⟨hh, B, d, rfl, s⟩ := hhl2.entry hv hat
      have HPS := Lib.hid (part_step hhl2.srt ss hh)
      have hx47 : x.length ≤ 140737488355328 := hhl2.len _ (mem_val hhl2.srt.nodup hh)
      generalize valOf l x = v at *
      have hb3 := below_alloc (Below.refl w2.heap.size w2) (.cells #[Value.slice B v.length d] 102)
      have x3 := (blk_new w2 (.cells #[Value.slice B v.length d] 102))
      obtain ⟨cap, w4, hcv, s4, hb4⟩ := bytes_of (w2.alloc (.cells #[Value.slice B v.length d] 102)) x hx47
      rw [show (w2.alloc (.cells #[Value.slice B v.length d] 102)).heap.size = w2.heap.size + 1 by simp] at hcv s4
      have x0 : w4.cell? ⟨w2.heap.size, 0, none⟩ = some (.slice B v.length d) := (blk_cell ((hb4.block _ (by simp)).trans x3) 0).trans rfl
      have hb24 := below_step hb3 hb4
      have LY := Lib.hid (lay_any w.heap.size ss.length (part l ss) _ B cap d x v w4 (hm2.keep hb24) s4 (s.below hb24) (by have h1 := hcs.out; have h2 := HS.out; have h3 := HN.out; omega))
      have HL4 := Lib.hid (hhl2.bs (fun s => s.below hb24))
      have HB4 := Lib.hid (below_step hb2 hb24)
      have RB := Lib.hid (hb24.block b (ranges_b_lt hrg2))
      have RR := Lib.hid (hb24.block W1.heap.size hrg2.lt)
      have HSW := Lib.hid hb24.size
      have HRG2 := Lib.hid hrg2
      have HRG := Lib.hid hrg
      have HCC := Lib.hid (hC.step hlk hat)
      have HLT := Lib.hid hlt
      have HCS := Lib.hid hcs.out
      have HM4 := Lib.hid (hm2.keep hb24).noU8
      unfold encStr at hen
      clear hs2 hcs hlt hnx hg2 hrg2 hrg hC hlk hat hkey hv ex k2 hno hhl2 hm2 hb2 hh hx47 s hb3 x3 s4 hb4 hb24 hm hhl
      go_wp2_with fail
      (with_reducible refine LY.out.mono ?_)
      rintro e w5 ⟨rfl, t5, k5⟩
      have HT5 := Lib.hid t5
      rw [HPS.out] at HT5
      have HR5 := Lib.hid (ranges_blk HRG2.out ((k5.block b (Nat.lt_of_lt_of_le HBL.out HB4.out.size) (by have := HBL.out; omega)).trans RB.out) ((k5.block W1.heap.size (Nat.lt_of_lt_of_le HRG2.out.lt HSW.out) (by rw [HRL.out]; omega)).trans RR.out))
      have HL5 := Lib.hid (HL4.out.bs (fun s => bs_only s k5 (fun i hi _ => by rw [hi]; exact HM4.out)))
      have HB5 := Lib.hid (below_only HB4.out k5 (fun i hi => by omega))
      clear t5 k5
      go_wp2_with fail
      go_roundw
      case rel => exact ⟨_, cnt2, ss ++ [x], HR5.out, by have := HCS.out; have := HLT.out; simp [Hid]; omega, by simpa using HT5, HCC.out, HB5.out, HL5.out⟩
      case measure => rw [HR5.out.left_eq, HRG.out.left_eq]; exact HLT.out
end Go.Proofs.Ytnhfeoniiadjfaa.Lst
/- The same list of sets is the same. -/
namespace Go.Proofs.Ytnhfeoniiadjfaa.Lst
open Go.RowKit Go.Proofs.Ytnhfeoniiadjfaa.K Go.Proofs.Ytnhfeoniiadjfaa.Help Go.Proofs.Ytnhfeoniiadjfaa.Pfx Go.Proofs.Ytnhfeoniiadjfaa.Peer
set_option linter.unusedVariables false

/-- set i of a list -/
theorem Lst.set {w : World} {N : Nat → Prop} {A : Option Addr} {c : Nat} {l : List SetD} (h : Lst SetE w N A c l) (i : Nat) (x : SetD) (hx : l[i]? = some x) :
    ∃ bk off A1 a1 B1 b1, A = some ⟨bk, off, none⟩ ∧ bk < w.heap.size ∧ w.cell? ⟨bk, off + i * 3, none⟩ = some (.slice A1 x.1.length a1) ∧ w.cell? ⟨bk, off + i * 3 + 1, none⟩ = some (.slice B1 x.2.1.length b1) ∧ w.cell? ⟨bk, off + i * 3 + 2, none⟩ = some (.bool x.2.2)
      ∧ BsN w N A1 a1 x.1 ∧ BsN w N B1 b1 x.2.1 := by
  obtain ⟨bk, off, raw, e, hlt, _, hc, A1, a1, B1, b1, hr, h1, h2⟩ := h.at_ i x hx
  subst hr
  exact ⟨bk, off, A1, a1, B1, b1, e, hlt, hc 0 (by decide), hc 1 (by decide), hc 2 (by decide), h1, h2⟩
set_option maxRecDepth 100000 in
set_option maxHeartbeats 2000000 in
theorem sameSets_self (A B : Option Addr) (a b : Nat) (l : List SetD) (w : World) (hp : Lst SetE w (fun _ => False) A a l) (hq : Lst SetE w (fun _ => False) B b l) :
    Calls Try.prog 46 #[.slice A l.length a, .slice B l.length b] w (Pure w (.bool true)) := by
  have HP := Lib.hid hp
  have HQ := Lib.hid hq
  have h1 := hp.le
  have h2 := hp.max
  have h3 := hq.le
  have h4 := hq.max
  clear hp hq
  generalize hn : l.length = n at *
  have HN := Lib.hid hn
  clear hn
  go_enter Try.func46, Try.ntmps46
  go_wp2_with fail
  go_loopg [5] n (fun gk i wr => ∃ p : Nat, p ≤ n ∧ gk = n - p ∧ i = .int .i64 (p : Int) ∧ Below w.heap.size w wr)
  case atStart => exact ⟨0, by omega, rfl, rfl, Below.refl _ _⟩
  case round =>
    obtain ⟨p, hp, rfl, rfl, hb⟩ := hrel
    have HW := Lib.hid hb
    have HG0 := Lib.hid (Since.drew hb)
    clear hb
    by_cases hlt : p < n
    · have i1 : (p : Int) < (n : Int) := by omega
      have i0 : (0 : Int) ≤ (p : Int) := by omega
      obtain ⟨bk, off, A1, a1, B1, b1, rfl, hbk, c0, c1, c2, s1, s2⟩ := HP.out.set p _ (getD_get zeroSet (by rw [HN.out]; exact hlt))
      obtain ⟨ck, cff, A2, a2, B2, b2, rfl, hck, d0, d1, d2, u1, u2⟩ := HQ.out.set p _ (getD_get zeroSet (by rw [HN.out]; exact hlt))
      have y0 := Since.cell c0 hbk
      have z0 := Since.cell d0 hck
      have Y1 := Lib.hid (Since.cell c1 hbk)
      have Z1 := Lib.hid (Since.cell d1 hck)
      have Y2 := Lib.hid (Since.cell c2 hbk)
      have Z2 := Lib.hid (Since.cell d2 hck)
      have V1 := Lib.hid (Since.bytes s1.1 u1.1)
      have V2 := Lib.hid (Since.bytes s2.1 u2.1)
      rw [show decide ((l.getD p zeroSet).1 = (l.getD p zeroSet).1) = true by simp] at V1
      rw [show decide ((l.getD p zeroSet).2.1 = (l.getD p zeroSet).2.1) = true by simp] at V2
      clear c0 c1 c2 d0 d1 d2 s1 s2 u1 u2
      generalize (l.getD p zeroSet).1.length = q1 at *
      generalize (l.getD p zeroSet).2.1.length = q2 at *
      generalize (l.getD p zeroSet).2.2 = q3 at *
      go_wp2_with fail
      refine wp_region_quiet_cls (Since w) (by kernel_rfl) (by kernel_rfl) HG0.out ?_
      repeat (go_big_quiet_step ((go_at_call 15; exact calls_cls Since.step (V1.out _))))
      refine wpQuiet_nil ?_
      intro _ hw'
      obtain ⟨nq, hw''⟩ := hw'
      subst hw''
      have Q := Lib.hid (show Below w.heap.size w nq.W from nq.ok)
      have HG1 := Lib.hid (Since.drew (w := w) (W := nq.W) nq.ok)
      have y1 := Y1.out
      have z1 := Z1.out
      clear y0 z0
      go_wp2_with fail
      refine wp_region_quiet_cls (Since w) (by kernel_rfl) (by kernel_rfl) HG1.out ?_
      repeat (go_big_quiet_step ((go_at_call 15; exact calls_cls Since.step (V2.out _))))
      refine wpQuiet_nil ?_
      intro _ hw'
      obtain ⟨nq2, hw''⟩ := hw'
      subst hw''
      have Q2 := Lib.hid (show Below w.heap.size w nq2.W from nq2.ok)
      have HG2 := Lib.hid (Since.drew (w := w) (W := nq2.W) nq2.ok)
      have y2 := Y2.out
      have z2 := Z2.out
      have e3 : (q3 != q3) = false := by simp
      clear y1 z1
      go_wp2_with fail
      refine wp_region_quiet_cls (Since w) (by kernel_rfl) (by kernel_rfl) HG2.out ?_
      repeat (go_big_quiet_step (fail))
      refine wpQuiet_nil ?_
      intro _ hw'
      obtain ⟨nq3, hw''⟩ := hw'
      subst hw''
      have Q3 := Lib.hid (show Below w.heap.size w nq3.W from nq3.ok)
      go_wp2_with fail
      go_roundg (n - (p + 1))
      case measure => omega
      case rel => exact ⟨p + 1, by omega, rfl, by go_num, Q3.out⟩
    · obtain rfl : p = n := by omega
      have i1 : ¬ (p : Int) < (p : Int) := by omega
      go_wp2_with fail
      go_ret
      exact ⟨rfl, HW.out⟩
end Go.Proofs.Ytnhfeoniiadjfaa.Lst
/- New, Len, may, Apply. -/
namespace Go.Proofs.Ytnhfeoniiadjfaa.Lst
open Go.RowKit Go.Maps Go.Sort Go.Shelf Go.Proofs.Ytnhfeoniiadjfaa.K Go.Proofs.Ytnhfeoniiadjfaa.Help Go.Proofs.Ytnhfeoniiadjfaa.Pfx Go.Proofs.Ytnhfeoniiadjfaa.Peer
set_option linter.unusedVariables false

/-- a table: its box, its map -/
structure TTab (w : World) (p b n : Nat) (l : List RowD) : Prop where
  blk : w.heap[p]? = some (.cells #[.map (some b)] 59 (0, 0))
  map : TMap w b n l
section
variable {w w' : World} {p b n : Nat} {l : List RowD}
theorem TTab.lt (h : TTab w p b n l) : p < w.heap.size := blk_lt h.blk
theorem TTab.ne (h : TTab w p b n l) : p ≠ b := fun e => by
  obtain ⟨D, ⟨es, clock, hh, _⟩, _⟩ := h.map
  have := h.blk
  rw [e, hh] at this
  cases this
theorem TTab.cell (h : TTab w p b n l) : w.cell? ⟨p, 0, none⟩ = some (.map (some b)) := (blk_cell h.blk 0).trans rfl
theorem TTab.keep (h : TTab w p b n l) (hb : Below w.heap.size w w') : TTab w' p b n l := ⟨(hb.block _ h.lt).trans h.blk, h.map.keep hb⟩
theorem TTab.noU8 (h : TTab w p b n l) : NoU8 w p := by
  intro j x e
  rw [blk_cell h.blk j] at e
  match j with
  | 0 => cases e
  | j + 1 => simp at e
theorem TTab.more {m : Nat} (h : TTab w p b n l) (hm : n ≤ m) : TTab w p b m l := ⟨h.blk, h.map.more hm⟩
theorem TTab.turn {m : Nat} {q : List RowD} (h : TTab w p b n l) (k : Only w w' (fun i => i = b)) (hm : TMap w' b m q) : TTab w' p b m q := ⟨k.blk h.blk h.ne, hm⟩
end
def RetN (w : World) (e : Ending) (w' : World) : Prop := ∃ p b, e = .returned (.pointer (some ⟨p, 0, none⟩)) ∧ w.heap.size ≤ p ∧ w.heap.size ≤ b ∧ TTab w' p b 0 [] ∧ Below w.heap.size w w'
theorem new_any (w : World) : Calls Try.prog 41 #[] w (RetN w) := by
  have hmk : (Instr.makeMap 57 none).run Try.prog w = .ok (.map (some w.heap.size)) (w.alloc (.map #[] 0)) := rfl
  have M1 := Lib.hid (TMap.made w)
  have hb1 := below_alloc (Below.refl w.heap.size w) (.map #[] 0)
  have hb2 := below_alloc (Below.refl (w.alloc (.map #[] 0)).heap.size (w.alloc (.map #[] 0))) (.cells #[.map (some w.heap.size)] 59)
  have M2 := Lib.hid (M1.out.keep hb2)
  have B2 := Lib.hid (below_step hb1 hb2)
  have X2 := Lib.hid (blk_new (w.alloc (.map #[] 0)) (.cells #[.map (some w.heap.size)] 59))
  have e : (w.alloc (.map #[] 0)).heap.size = w.heap.size + 1 := by simp
  rw [e] at X2
  clear hb1 hb2 e
  go_enter Try.func41, Try.ntmps41
  go_wp2_with fail
  go_ret
  exact ⟨w.heap.size + 1, w.heap.size, by simp, by omega, Nat.le_refl _, ⟨X2.out, M2.out⟩, B2.out⟩
theorem len_any (p b n : Nat) (l : List RowD) (w : World) (h : TTab w p b n l) : Calls Try.prog 22 #[.pointer (some ⟨p, 0, none⟩)] w (fun e w' => e = .returned (.int .i64 l.length) ∧ w = w') := by
  have c0 := h.cell
  have HT := Lib.hid h.map
  clear h
  go_enter Try.func22, Try.ntmps22
  go_wp2_with (at_len; refine tlen rfl _ rfl rfl HT.out ?_)
  go_ret
  exact ⟨rfl, rfl⟩
def mayN (nk nv : Nat) (g : Bool) : Bool := !(g && decide (0 < nv)) && decide (1 ≤ nk ∧ nk ≤ 40 ∧ nv ≤ 480)
theorem mayB_eq (s : SetD) : mayB s = mayN s.1.length s.2.1.length s.2.2 := rfl
theorem mayN_true {nk nv : Nat} {g : Bool} (h0 : g = false ∨ nv = 0) (h1 : 1 ≤ nk) (h2 : nk ≤ 40) (h3 : nv ≤ 480) : mayN nk nv g = true := by
  unfold mayN
  rw [decide_eq_true (show 1 ≤ nk ∧ nk ≤ 40 ∧ nv ≤ 480 from ⟨h1, h2, h3⟩)]
  rcases h0 with rfl | rfl <;> simp
theorem mayN_false {nk nv : Nat} {g : Bool} (h : (g = true ∧ 0 < nv) ∨ ¬ (1 ≤ nk ∧ nk ≤ 40 ∧ nv ≤ 480)) : mayN nk nv g = false := by
  unfold mayN
  rcases h with ⟨rfl, h⟩ | h
  · rw [decide_eq_true h]; rfl
  · rw [decide_eq_false h]; simp
set_option maxRecDepth 100000 in
set_option maxHeartbeats 1000000 in
theorem may_any (A B : Option Addr) (nk a nv b : Nat) (g : Bool) (w : World) :
    Calls Try.prog 47 #[.agg #[.slice A nk a, .slice B nv b, .bool g]] w (Pure w (.bool (mayN nk nv g))) := by
  have HB := Lib.hid (below_alloc (Below.refl w.heap.size w) (.cells #[.slice A nk a, .slice B nv b, .bool g] 37))
  have hx := blk_new w (.cells #[.slice A nk a, .slice B nv b, .bool g] 37)
  have x0 := (blk_cell hx 0).trans (b := some (Value.slice A nk a)) rfl
  have x1 := (blk_cell hx 1).trans (b := some (Value.slice B nv b)) rfl
  have x2 := (blk_cell hx 2).trans (b := some (Value.bool g)) rfl
  clear hx
  have fin : ∀ r : Bool, mayN nk nv g = r → Hid (Pure w (.bool (mayN nk nv g)) (.returned (.bool r)) (w.alloc (.cells #[.slice A nk a, .slice B nv b, .bool g] 37))) := fun r e => by rw [e]; exact ⟨rfl, HB.out⟩
  have FT := Lib.hid (fun h : mayN nk nv g = true => (fin true h).out)
  have FF := Lib.hid (fun h : mayN nk nv g = false => (fin false h).out)
  clear fin
  rcases Nat.eq_zero_or_pos nv with h0 | h0
  · have n0 : decide ((0 : Int) < (nv : Int)) = false := by rw [decide_eq_false_iff_not]; omega
    have m0 : decide (0 < nv) = false := by rw [decide_eq_false_iff_not]; omega
    have n4 : (nv : Int) ≤ 480 := by omega
    by_cases h1 : 1 ≤ nk
    · have n1 : (1 : Int) ≤ (nk : Int) := by omega
      by_cases h2 : nk ≤ 40
      · have n2 : (nk : Int) ≤ 40 := by omega
        have R := Lib.hid (FT.out (mayN_true (.inr h0) h1 h2 (by omega)))
        clear FT FF h0 h1 h2
        cases g
        all_goals
          go_enter Try.func47, Try.ntmps47
          go_wp2_with fail
          go_ret
          exact R.out
      · have n2 : decide ((nk : Int) ≤ 40) = false := by rw [decide_eq_false_iff_not]; omega
        have R := Lib.hid (FF.out (mayN_false (.inr (by omega))))
        clear FT FF h0 h1 h2
        cases g
        all_goals
          go_enter Try.func47, Try.ntmps47
          go_wp2_with fail
          go_ret
          exact R.out
    · have n1 : decide ((1 : Int) ≤ (nk : Int)) = false := by rw [decide_eq_false_iff_not]; omega
      have R := Lib.hid (FF.out (mayN_false (.inr (by omega))))
      clear FT FF h0 h1
      cases g
      all_goals
        go_enter Try.func47, Try.ntmps47
        go_wp2_with fail
        go_ret
        exact R.out
  · have n0 : (0 : Int) < (nv : Int) := by omega
    have m0 : 0 < nv := h0
    cases g
    · by_cases h1 : 1 ≤ nk
      · have n1 : (1 : Int) ≤ (nk : Int) := by omega
        by_cases h2 : nk ≤ 40
        · have n2 : (nk : Int) ≤ 40 := by omega
          by_cases h3 : nv ≤ 480
          · have n3 : (nv : Int) ≤ 480 := by omega
            have R := Lib.hid (FT.out (mayN_true (.inl rfl) h1 h2 h3))
            clear FT FF h0 h1 h2 h3
            go_enter Try.func47, Try.ntmps47
            go_wp2_with fail
            go_ret
            exact R.out
          · have n3 : decide ((nv : Int) ≤ 480) = false := by rw [decide_eq_false_iff_not]; omega
            have R := Lib.hid (FF.out (mayN_false (.inr (by omega))))
            clear FT FF h0 h1 h2 h3
            go_enter Try.func47, Try.ntmps47
            go_wp2_with fail
            go_ret
            exact R.out
        · have n2 : decide ((nk : Int) ≤ 40) = false := by rw [decide_eq_false_iff_not]; omega
          have R := Lib.hid (FF.out (mayN_false (.inr (by omega))))
          clear FT FF h0 h1 h2
          go_enter Try.func47, Try.ntmps47
          go_wp2_with fail
          go_ret
          exact R.out
      · have n1 : decide ((1 : Int) ≤ (nk : Int)) = false := by rw [decide_eq_false_iff_not]; omega
        have R := Lib.hid (FF.out (mayN_false (.inr (by omega))))
        clear FT FF h0 h1
        go_enter Try.func47, Try.ntmps47
        go_wp2_with fail
        go_ret
        exact R.out
    · have R := Lib.hid (FF.out (mayN_false (.inl ⟨rfl, h0⟩)))
      clear FT FF h0
      go_enter Try.func47, Try.ntmps47
      go_wp2_with fail
      go_ret
      exact R.out
end Go.Proofs.Ytnhfeoniiadjfaa.Lst
/- Apply. -/
namespace Go.Proofs.Ytnhfeoniiadjfaa.Lst
open Go.RowKit Go.Maps Go.Sort Go.Shelf Go.Proofs.Ytnhfeoniiadjfaa.K Go.Proofs.Ytnhfeoniiadjfaa.Help Go.Proofs.Ytnhfeoniiadjfaa.Pfx Go.Proofs.Ytnhfeoniiadjfaa.Peer
set_option linter.unusedVariables false

def NoCell (w : World) (b : Nat) : Prop := ∀ j, w.cell? ⟨b, j, none⟩ = none
theorem TMap.noCell {w : World} {b n : Nat} {l : List RowD} (h : TMap w b n l) : NoCell w b := by
  obtain ⟨D, ⟨es, clock, hh, _⟩, _⟩ := h
  intro j
  simp [World.cell?, hh]
theorem BsN.avoid {w : World} {A : Option Addr} {c b : Nat} {l : List UInt8} (h : BsN w (fun _ => False) A c l) (hb : NoCell w b) : BsN w (fun i => i = b) A c l :=
  ⟨h.1, fun hl ad e hn => by
    obtain ⟨ad', e', hlt, hc⟩ := h.1.at_ 0 (List.length_pos_iff.2 hl)
    rw [e] at e'
    cases e'
    have hs := cell_spot hc
    rw [hs] at hc
    have h2 : (ad.add 0).block = ad.block := addr_add_block ad 0
    rw [h2, hn, hb] at hc
    cases hc⟩
theorem Lst.avoidS {w : World} {A : Option Addr} {c b : Nat} {l : List SetD} (h : Lst SetE w (fun _ => False) A c l) (hb : NoCell w b) : Lst SetE w (fun i => i = b) A c l :=
  ⟨h.le, h.max, fun i x hx => by
    obtain ⟨bk, off, raw, e, hlt, _, hc, hr⟩ := h.at_ i x hx
    refine ⟨bk, off, raw, e, hlt, fun he => ?_, hc, ?_⟩
    · have hl : raw.length = 3 := SetE.len hr
      have h0 := hc 0 (by decide)
      subst he
      rw [hb, List.getElem?_eq_getElem (by omega)] at h0
      cases h0
    · obtain ⟨A1, a1, B1, b1, e1, s1, s2⟩ := hr
      exact ⟨A1, a1, B1, b1, e1, s1.avoid hb, s2.avoid hb⟩⟩
theorem tdel_run {w : World} {b n : Nat} {l : List RowD} (h : TMap w b n l) (k : List UInt8) (hk : k.length ≤ 140737488355328) :
    ∃ w', (∀ ty, (Builtin.delete_ #[57, 9] ty #[.map (some b), .string ⟨k.toArray⟩]).run Try.prog w = .ok (.tuple #[]) w') ∧ TMap w' b n (delR l k) ∧ Only w w' (fun i => i = b) := by
  have hno := h.noU8
  obtain ⟨D, h1, h2⟩ := h
  obtain ⟨w', hrun, hown, ht⟩ := h1.drop K_str u_tmap (key := .string ⟨k.toArray⟩) (kl := .string k) (key_str (by simp only [maxLen]; omega)) 0
  have k1 : Only w w' (fun i => i = b) := (Only.refl w _).grown ht.grown (fun k hk => by injection hk with hk; exact .inl hk.symm)
  exact ⟨w', fun ty => hrun, ⟨_, hown, (h2.del k).bs (fun s => bs_only s k1 (fun i hi _ => by rw [hi]; exact hno))⟩, k1⟩
def RetA (w : World) (p b n : Nat) (l : List RowD) (ss : List SetD) (e : Ending) (w' : World) : Prop :=
  (ss.all mayB = true ∧ e = .returned (.int .i64 0) ∧ TTab w' p b (n + ss.length) (appL l ss) ∧ Only w w' (fun i => i = b)) ∨ (ss.all mayB = false ∧ e = .returned (.int .i64 114) ∧ Below w.heap.size w w')
theorem all_no {α : Type} {f : α → Bool} {z : α} {l : List α} {k : Nat} (hk : k < l.length) (h : f (l.getD k z) = false) : l.all f = false := by
  rw [List.all_eq_false]
  have e : l.getD k z = l[k] := by simp [hk]
  rw [e] at h
  exact ⟨l[k], List.getElem_mem hk, by simp [h]⟩
set_option maxRecDepth 100000 in
set_option maxHeartbeats 4000000 in
theorem apply_any (p b n : Nat) (l : List RowD) (A : Option Addr) (a : Nat) (ss : List SetD) (w : World) (h : TTab w p b n l) (hs : Lst SetE w (fun _ => False) A a ss) (hn : n ≤ 100000) (hm : ss.length ≤ 100000) :
    Calls Try.prog 21 #[.pointer (some ⟨p, 0, none⟩), .slice A ss.length a] w (RetA w p b n l ss) := by
  have HT := Lib.hid h
  have HS := Lib.hid (hs.avoidS h.map.noCell)
  have h1 := hs.le
  have h2 := hs.max
  have HN := Lib.hid hn
  have HML := Lib.hid hm
  clear h hs hn hm
  generalize hmm : ss.length = m at *
  have HM := Lib.hid hmm
  clear hmm
  go_enter Try.func21, Try.ntmps21
  go_wp2_with fail
  go_loopg [11] m (fun gk i wr => ∃ k : Nat, k ≤ m ∧ gk = m - k ∧ i = .int .i64 (k : Int) ∧ Hid ((ss.take k).all mayB = true) ∧ Hid (Below w.heap.size w wr))
  case atStart => exact ⟨0, by omega, rfl, rfl, rfl, Below.refl _ _⟩
  case round =>
    obtain ⟨k, hk, rfl, rfl, HA, HW⟩ := hrel
    by_cases hlt : k < m
    · have i1 : (k : Int) < (m : Int) := by omega
      have i0 : (0 : Int) ≤ (k : Int) := by omega
      have HTA := Lib.hid (take_all mayB zeroSet ss k (by rw [HM.out]; exact hlt))
      rw [HA.out] at HTA
      have HNO := Lib.hid (all_no (f := mayB) (z := zeroSet) (l := ss) (k := k) (by rw [HM.out]; exact hlt))
      obtain ⟨bk, off, A1, a1, B1, b1, rfl, hbk, c0, c1, c2, s1, s2⟩ := HS.out.set k _ (getD_get zeroSet (by rw [HM.out]; exact hlt))
      obtain ⟨⟨xk, xv, xg⟩, hx⟩ : ∃ y, ss.getD k zeroSet = y := ⟨_, rfl⟩
      rw [hx] at c0 c1 c2 HTA HNO
      dsimp only at c0 c1 c2
      have y0 : wr.cell? ⟨bk, off + k * 3, none⟩ = some (.slice A1 xk.length a1) := (HW.out.cell (p := ⟨bk, _, none⟩) hbk).trans c0
      have y1 : wr.cell? ⟨bk, off + k * 3 + 1, none⟩ = some (.slice B1 xv.length b1) := (HW.out.cell (p := ⟨bk, _, none⟩) hbk).trans c1
      have y2 : wr.cell? ⟨bk, off + k * 3 + 2, none⟩ = some (.bool xg) := (HW.out.cell (p := ⟨bk, _, none⟩) hbk).trans c2
      have hb := below_alloc (Below.refl wr.heap.size wr) (.cells #[.slice A1 xk.length a1, .slice B1 xv.length b1, .bool xg] 37)
      have hx2 := blk_new wr (.cells #[.slice A1 xk.length a1, .slice B1 xv.length b1, .bool xg] 37)
      have x0 := (blk_cell hx2 0).trans (b := some (Value.slice A1 xk.length a1)) rfl
      have x1 := (blk_cell hx2 1).trans (b := some (Value.slice B1 xv.length b1)) rfl
      have x2 := (blk_cell hx2 2).trans (b := some (Value.bool xg)) rfl
      have M := Lib.hid (may_any A1 B1 xk.length a1 xv.length b1 xg (wr.alloc (.cells #[.slice A1 xk.length a1, .slice B1 xv.length b1, .bool xg] 37)))
      have W1 := Lib.hid (below_step HW.out hb)
      rw [show mayB (xk, xv, xg) = mayN xk.length xv.length xg from rfl] at HTA HNO
      generalize mayN xk.length xv.length xg = mb at *
      clear c0 c1 c2 s1 s2 hx hbk hb hx2
      go_wp2_with fail
      refine M.out.mono ?_
      rintro e w2 ⟨rfl, hb2⟩
      have W2 := Lib.hid (below_step W1.out hb2)
      clear hb2
      cases mb
      · have HF : Hid (ss.all mayB = false) := Lib.hid (HNO.out (by first | rfl | trivial))
        go_wp2_with fail
        go_ret
        exact .inr ⟨HF.out, rfl, W2.out⟩
      · go_wp2_with fail
        go_roundg (m - (k + 1))
        case measure => omega
        case rel => exact ⟨k + 1, by omega, rfl, by go_num, HTA.out.trans (by simp), W2⟩
    · obtain rfl : k = m := by omega
      have i1 : ¬ (k : Int) < (k : Int) := by omega
      have htk : ss.take k = ss := List.take_of_length_le (by rw [HM.out]; omega)
      rw [htk] at HA
      have T0 := Lib.hid (HT.out.keep HW.out)
      clear htk
      go_wp2_with fail
      go_loopg [21] k (fun gk i wr => ∃ j : Nat, j ≤ k ∧ gk = k - j ∧ i = .int .i64 (j : Int) ∧ Hid (TTab wr p b (n + j) (appL l (ss.take j))) ∧ Hid (Only w wr (fun i => i = b)))
      case atStart => exact ⟨0, by omega, rfl, rfl, T0, Only.of_below HW.out _⟩
      case round =>
        clear T0 HW
        obtain ⟨j, hj, rfl, rfl, T, HO⟩ := hrel
        by_cases hlt : j < k
        · have j1 : (j : Int) < (k : Int) := by omega
          have j0 : (0 : Int) ≤ (j : Int) := by omega
          have HTS := Lib.hid (take_fold appS zeroSet l ss j (by rw [HM.out]; exact hlt))
          obtain ⟨bk, off, A1, a1, B1, b1, rfl, hbk, y0, y1, y2, s1, s2⟩ := (HS.out.only HO.out (fun i _ h => h)).set j _ (getD_get zeroSet (by rw [HM.out]; exact hlt))
          obtain ⟨⟨xk, xv, xg⟩, hx⟩ : ∃ y, ss.getD j zeroSet = y := ⟨_, rfl⟩
          rw [hx] at y0 y1 y2 s1 s2 HTS
          dsimp only at y0 y1 y2 s1 s2
          have hb := below_alloc (Below.refl wr.heap.size wr) (.cells #[.slice A1 xk.length a1, .slice B1 xv.length b1, .bool xg] 37)
          have hx2 := blk_new wr (.cells #[.slice A1 xk.length a1, .slice B1 xv.length b1, .bool xg] 37)
          have T1 := Lib.hid (T.out.keep hb)
          have O1 := Lib.hid (HO.out.then_ (Only.of_below hb (fun i => i = b)) (fun i h => .inl h))
          have S1 := Lib.hid (s1.1.below hb)
          have S2 := Lib.hid (s2.1.below hb)
          have hap : (ss.take (j + 1)).foldl appS l = appS (appL l (ss.take j)) (xk, xv, xg) := HTS.out
          have HAP := Lib.hid hap
          clear hb hx hbk s1 s2 HTS hap
          have x0 := (blk_cell hx2 0).trans (b := some (Value.slice A1 xk.length a1)) rfl
          have x1 := (blk_cell hx2 1).trans (b := some (Value.slice B1 xv.length b1)) rfl
          have x2 := (blk_cell hx2 2).trans (b := some (Value.bool xg)) rfl
          have HX2 := Lib.hid hx2
          have HBB := Lib.hid T.out.map.lt
          clear hx2
          cases xg
          · have HAP2 : Hid (appL l (ss.take (j + 1)) = setR (appL l (ss.take j)) xk xv) := HAP
            go_wp2_with fail
            generalize wr.alloc (.cells #[.slice A1 xk.length a1, .slice B1 xv.length b1, .bool false] 37) = W1 at *
            have c0 := T1.out.cell
            have TD : Hid (TTab W1.drew p b (n + j) (appL l (ss.take j))) := Lib.hid (T1.out.keep (below_drewN (Below.refl _ _) 1))
            have LY := Lib.hid (lay_any b (n + j) (appL l (ss.take j)) A1 B1 a1 b1 xk xv W1.drew TD.out.map (S1.out.drewN 1) (S2.out.drewN 1) (by have := HN.out; have := HML.out; omega))
            go_region_held3 (fun w' => w'.cell? ⟨p, 0, none⟩ = some (.map (some b)) ∧ w'.cell? ⟨wr.heap.size, 0, none⟩ = some (.slice A1 xk.length a1) ∧ w'.cell? ⟨wr.heap.size, 1, none⟩ = some (.slice B1 xv.length b1)) (first | go_keep | exact ⟨f0, f1, f2⟩)
              (first | (go_at_call 54; refine LY.out.mono ?_; rintro e w3 ⟨rfl, t3, k3⟩; have T3 := Lib.hid (TD.out.turn k3 t3); have KD : Only W1 w3 (fun i => i = b) := (Only.of_below (below_drewN (Below.refl W1.heap.size W1) 1) (fun i => i = b)).then_ k3 (fun i h => .inl h); have O3 := Lib.hid (O1.out.then_ KD (fun i h => .inl h)); have hx3 := KD.blk HX2.out (by have := HBB.out; omega); have f0 := T3.out.cell; have f1 := (blk_cell hx3 0).trans (b := some (Value.slice A1 xk.length a1)) rfl; have f2 := (blk_cell hx3 1).trans (b := some (Value.slice B1 xv.length b1)) rfl; clear t3 k3 KD hx3))
            go_wp2_with fail
            go_roundg (k - (j + 1))
            case measure => omega
            case rel => exact ⟨j + 1, by omega, rfl, by go_num, by rw [Hid, HAP2.out]; exact T3.out, O3⟩
          · have HAP2 : Hid (appL l (ss.take (j + 1)) = delR (appL l (ss.take j)) xk) := HAP
            go_wp2_with fail
            generalize wr.alloc (.cells #[.slice A1 xk.length a1, .slice B1 xv.length b1, .bool true] 37) = W1 at *
            have c0 := T1.out.cell
            have TD : Hid (TTab W1.drew p b (n + j) (appL l (ss.take j))) := Lib.hid (T1.out.keep (below_drewN (Below.refl _ _) 1))
            have s0 := str_of A1 a1 xk W1.drew (S1.out.drewN 1)
            obtain ⟨w3, hdel, t3, k3⟩ := tdel_run TD.out.map xk S1.out.max
            have T3 := Lib.hid (TD.out.turn k3 t3)
            have KD : Only W1 w3 (fun i => i = b) := (Only.of_below (below_drewN (Below.refl W1.heap.size W1) 1) (fun i => i = b)).then_ k3 (fun i h => .inl h)
            have O3 := Lib.hid (O1.out.then_ KD (fun i h => .inl h))
            have hx3 := KD.blk HX2.out (by have := HBB.out; omega)
            have f0 := T3.out.cell
            have f1 := (blk_cell hx3 0).trans (b := some (Value.slice A1 xk.length a1)) rfl
            have s3 := str_of A1 a1 xk w3 (bs_only (S1.out.drewN 1) k3 (fun i hi _ => by rw [hi]; exact TD.out.map.noU8))
            have e0 : W1.drew.cell? ⟨wr.heap.size, 0, none⟩ = some (.slice A1 xk.length a1) := (blk_cell HX2.out 0).trans rfl
            have e1 := TD.out.cell
            clear t3 k3 KD hx3
            go_region_held3 (fun w' => w'.cell? ⟨p, 0, none⟩ = some (.map (some b)) ∧ w'.cell? ⟨wr.heap.size, 0, none⟩ = some (.slice A1 xk.length a1) ∧ (convert 27 9 (.slice A1 xk.length a1)).run Try.prog w' = .ok (.string ⟨xk.toArray⟩) w') (first | exact ⟨e1, e0, s0⟩ | exact ⟨f0, f1, s3⟩ | go_keep) (fail)
            go_wp2_with fail
            go_roundg (k - (j + 1))
            case measure => omega
            case rel => exact ⟨j + 1, by omega, rfl, by go_num, by rw [Hid, HAP2.out]; exact T3.out.more (by omega), O3⟩
        · obtain rfl : j = k := by omega
          have j1 : ¬ (j : Int) < (j : Int) := by omega
          have htk : ss.take j = ss := List.take_of_length_le (by rw [HM.out]; omega)
          rw [htk] at T
          clear htk
          go_wp2_with fail
          go_ret
          exact .inl ⟨HA.out, rfl, by rw [HM.out]; exact T.out, HO.out⟩
end Go.Proofs.Ytnhfeoniiadjfaa.Lst
/- Over, Set, Delete. -/
namespace Go.Proofs.Ytnhfeoniiadjfaa.Lst
open Go.RowKit Go.Maps Go.Sort Go.Shelf Go.Proofs.Ytnhfeoniiadjfaa.K Go.Proofs.Ytnhfeoniiadjfaa.Help Go.Proofs.Ytnhfeoniiadjfaa.Pfx Go.Proofs.Ytnhfeoniiadjfaa.Peer
set_option linter.unusedVariables false

/-- changes over a table: their box, the rows as they are and as they were -/
structure TOver (w : World) (p b n : Nat) (l : List RowD) (c m : Nat) (q : List RowD) : Prop where
  blk : w.heap[p]? = some (.cells #[.map (some b), .map (some c)] 67 (0, 0))
  is_ : TMap w b n l
  was : TMap w c m q
  ne : b ≠ c
section
variable {w w' : World} {p b n c m : Nat} {l q : List RowD}
theorem TOver.lt (h : TOver w p b n l c m q) : p < w.heap.size := blk_lt h.blk
theorem TOver.neB (h : TOver w p b n l c m q) : p ≠ b := fun e => by
  obtain ⟨D, ⟨es, clock, hh, _⟩, _⟩ := h.is_
  have := h.blk
  rw [e, hh] at this
  cases this
theorem TOver.neC (h : TOver w p b n l c m q) : p ≠ c := fun e => by
  obtain ⟨D, ⟨es, clock, hh, _⟩, _⟩ := h.was
  have := h.blk
  rw [e, hh] at this
  cases this
theorem TOver.c0 (h : TOver w p b n l c m q) : w.cell? ⟨p, 0, none⟩ = some (.map (some b)) := (blk_cell h.blk 0).trans rfl
theorem TOver.c1 (h : TOver w p b n l c m q) : w.cell? ⟨p, 1, none⟩ = some (.map (some c)) := (blk_cell h.blk 1).trans rfl
theorem TOver.keep (h : TOver w p b n l c m q) (hb : Below w.heap.size w w') : TOver w' p b n l c m q := ⟨(hb.block _ h.lt).trans h.blk, h.is_.keep hb, h.was.keep hb, h.ne⟩
theorem TOver.turn {n' : Nat} {l' : List RowD} (h : TOver w p b n l c m q) (k : Only w w' (fun i => i = b)) (hm : TMap w' b n' l') : TOver w' p b n' l' c m q :=
  ⟨k.blk h.blk h.neB, hm, h.was.only k (fun e => h.ne e.symm) (fun i hi _ => by rw [hi]; exact h.is_.noU8), h.ne⟩
end
theorem tlook_run {w : World} {b n : Nat} {l : List RowD} (h : TMap w b n l) (k : List UInt8) (hk : k.length ≤ 140737488355328) :
    ∃ B c, (Instr.lookup 57 (.map (some b)) (.string ⟨k.toArray⟩) true).run Try.prog w = .ok (.tuple #[.agg #[.slice B (valOf l k).length c], .bool (hasK l k)]) w ∧ Bs w B c (valOf l k) := by
  obtain ⟨D, h1, h2⟩ := h
  obtain ⟨v, ps, hrun, hv⟩ := h1.look_ok K_str u_tmap (z_held w) (zd := .held (hvV none 0 0)) (zp := []) rfl (key := .string ⟨k.toArray⟩) (kl := .string k) (key_str (by simp only [maxLen]; omega))
  obtain ⟨B, c, e, s⟩ := h2.look k
  rw [e] at hv
  unfold RH at hv
  injection hv with hv
  injection hv with hv
  injection hv with hv
  subst hv
  rw [h2.has_] at hrun
  exact ⟨B, c, hrun, s⟩
theorem tlookv_run {w : World} {b n : Nat} {l : List RowD} (h : TMap w b n l) (k : List UInt8) (hk : k.length ≤ 140737488355328) :
    ∃ B c, (Instr.lookup 57 (.map (some b)) (.string ⟨k.toArray⟩) false).run Try.prog w = .ok (.agg #[.slice B (valOf l k).length c]) w ∧ Bs w B c (valOf l k) := by
  obtain ⟨D, h1, h2⟩ := h
  obtain ⟨v, ps, hrun, hv⟩ := h1.lookup K_str u_tmap (z_held w) (zd := .held (hvV none 0 0)) (zp := []) rfl (key := .string ⟨k.toArray⟩) (kl := .string k) (key_str (by simp only [maxLen]; omega))
  obtain ⟨B, c, e, s⟩ := h2.look k
  rw [e] at hv
  unfold RH at hv
  injection hv with hv
  injection hv with hv
  injection hv with hv
  subst hv
  exact ⟨B, c, hrun, s⟩
def RetO (w : World) (l : List RowD) (e : Ending) (w' : World) : Prop := ∃ p b c, e = .returned (.pointer (some ⟨p, 0, none⟩)) ∧ w.heap.size ≤ p ∧ w.heap.size ≤ b ∧ w.heap.size ≤ c ∧ TOver w' p b l.length l c l.length l ∧ Below w.heap.size w w'
set_option maxRecDepth 100000 in
set_option maxHeartbeats 1000000 in
theorem over_any (p b n : Nat) (l : List RowD) (w : World) (h : TTab w p b n l) (hn : n ≤ 100000) : Calls Try.prog 29 #[.pointer (some ⟨p, 0, none⟩)] w (RetO w l) := by
  have c0 := h.cell
  have HT := Lib.hid h
  have C1 := Lib.hid (fun w h => copied_any b n l w h hn)
  clear h hn
  go_enter Try.func29, Try.ntmps29
  have D0 : Hid (Below w.heap.size w w.drew) := Lib.hid (below_drewN (Below.refl _ _) 1)
  go_wp2_with fail
  go_region_held3 (fun w' => w'.cell? ⟨p, 0, none⟩ = some (.map (some b))) (first | go_keep | exact f0 | exact d0)
    (first
    | (go_at_call 58; refine (C1.out w1 T1.out.map).mono ?_; rintro e w2 ⟨b2, rfl, h2, m2, hb2⟩; have hb3 := below_alloc (Below.refl w2.heap.size w2) (.cells #[.map (some b1), .map (some b2)] 67); have X3 := Lib.hid (blk_new w2 (.cells #[.map (some b1), .map (some b2)] 67)); have W3 := Lib.hid (below_step (below_step W1.out hb2) hb3); have M13 := Lib.hid ((M1.out.keep hb2).keep hb3); have M23 := Lib.hid (m2.keep hb3); have L2 := Lib.hid h2; have LT1 := Lib.hid M1.out.lt; have SZ := Lib.hid hb2.size; have f0 := (T1.out.keep hb2).cell; clear h2 m2 hb2 hb3)
    | (go_at_call 58; refine (C1.out w.drew (HT.out.keep D0.out).map).mono ?_; rintro e w1 ⟨b1, rfl, h1, m1, hb1⟩; have T1 := Lib.hid (HT.out.keep (below_step D0.out hb1)); have W1 := Lib.hid (below_step D0.out hb1); have M1 := Lib.hid m1; have L1 : Hid (w.heap.size ≤ b1) := Lib.hid h1; have d0 := T1.out.cell; clear h1 m1 hb1))
  go_wp2_with fail
  go_ret
  exact ⟨w2.heap.size, b1, b2, rfl, Nat.le_trans W1.out.size SZ.out, L1.out, Nat.le_trans W1.out.size L2.out, ⟨X3.out, M13.out, M23.out, by have := LT1.out; have := L2.out; omega⟩, W3.out⟩
def RetSt (w : World) (p b n : Nat) (l : List RowD) (c m : Nat) (q : List RowD) (k v : List UInt8) (e : Ending) (w' : World) : Prop :=
  (mayB (k, v, false) = true ∧ e = .returned (.int .i64 0) ∧ TOver w' p b (n + 1) (setR l k v) c m q ∧ Only w w' (fun i => i = b)) ∨ (mayB (k, v, false) = false ∧ e = .returned (.int .i64 114) ∧ Below w.heap.size w w')
set_option maxRecDepth 100000 in
set_option maxHeartbeats 1000000 in
theorem oset_any (p b n c m : Nat) (l q : List RowD) (A B : Option Addr) (a d : Nat) (k v : List UInt8) (w : World) (h : TOver w p b n l c m q) (hk : Bs w A a k) (hv : Bs w B d v) (hn : n ≤ 100000) :
    Calls Try.prog 45 #[.pointer (some ⟨p, 0, none⟩), .slice A k.length a, .slice B v.length d] w (RetSt w p b n l c m q k v) := by
  have HT := Lib.hid h
  have HK := Lib.hid hk
  have HV := Lib.hid hv
  have M := Lib.hid (may_any A B k.length a v.length d false w)
  have LY := Lib.hid (fun w h h1 h2 => lay_any b n l A B a d k v w h h1 h2 (by omega))
  clear h hk hv hn
  have hm : mayB (k, v, false) = mayN k.length v.length false := rfl
  unfold RetSt
  rw [hm]
  clear hm
  generalize hmb : mayN k.length v.length false = mb at *
  clear hmb
  unfold Help.Pure at M
  go_enter Try.func45, Try.ntmps45
  go_wp2_with fail
  (with_reducible refine M.out.mono ?_)
  rintro e w1 ⟨rfl, hb1⟩
  have T1 := Lib.hid (HT.out.keep hb1)
  have c0 := T1.out.c0
  have W1 := Lib.hid hb1
  clear hb1
  cases mb
  · go_wp2_with fail
    go_ret
    first | exact ⟨rfl, W1.out⟩ | exact .inr ⟨rfl, rfl, W1.out⟩ | (simp; exact W1.out)
  · go_wp2_with fail
    (with_reducible refine (LY.out w1 T1.out.is_ (HK.out.below W1.out) (HV.out.below W1.out)).mono ?_)
    rintro e w2 ⟨rfl, t2, k2⟩
    have T2 := Lib.hid (T1.out.turn k2 t2)
    have K2 := Lib.hid ((Only.of_below W1.out (fun i => i = b)).then_ k2 (fun i h => .inl h))
    clear t2 k2
    go_wp2_with fail
    go_ret
    first | exact ⟨rfl, T2.out, K2.out⟩ | exact .inl ⟨rfl, rfl, T2.out, K2.out⟩
def RetD (w : World) (p b n : Nat) (l : List RowD) (c m : Nat) (q : List RowD) (k : List UInt8) (e : Ending) (w' : World) : Prop :=
  e = .returned (.bool (hasK l k)) ∧ TOver w' p b n (delR l k) c m q ∧ Only w w' (fun i => i = b)
set_option maxRecDepth 100000 in
set_option maxHeartbeats 1000000 in
theorem odel_any (p b n c m : Nat) (l q : List RowD) (A : Option Addr) (a : Nat) (k : List UInt8) (w : World) (h : TOver w p b n l c m q) (hk : Bs w A a k) :
    Calls Try.prog 44 #[.pointer (some ⟨p, 0, none⟩), .slice A k.length a] w (RetD w p b n l c m q k) := by
  have HT := Lib.hid h
  have HK := Lib.hid hk
  have c0 := h.c0
  have s0 := str_of A a k w.drew (hk.drewN 1)
  have hkm : k.length ≤ maxLen := by have h2 := hk.max; simp only [maxLen]; omega
  have HKM := Lib.hid hkm
  clear h hk hkm
  generalize hkl : k.length = kl at *
  have HKL := Lib.hid hkl
  clear hkl
  generalize hhk : hasK l k = hh at *
  have HH := Lib.hid hhk
  unfold RetD
  rw [hhk]
  clear hhk
  generalize hvv : valOf l k = vv at *
  have HVV := Lib.hid hvv
  clear hvv
  go_enter Try.func44, Try.ntmps44
  have D0 : Hid (Below w.heap.size w w.drew) := Lib.hid (below_drewN (Below.refl _ _) 1)
  obtain ⟨B, d, hlk, -⟩ := tlook_run (HT.out.keep D0.out).is_ k (HK.out.max)
  rw [HH.out, HVV.out] at hlk
  have DZ : Hid (Below w.heap.size w (w.alloc (.cells #[Value.slice none 0 0] 102)).drew) := Lib.hid (below_alloc D0.out (.cells #[Value.slice none 0 0] 102))
  have s1 := str_of A a k _ (HK.out.below DZ.out)
  rw [HKL.out] at s1
  obtain ⟨Bz, dz, hlkz, -⟩ := tlook_run (HT.out.keep DZ.out).is_ k (HK.out.max)
  rw [HH.out, HVV.out] at hlkz
  have W1 : Hid (Below w.heap.size w (w.alloc (.cells #[Value.slice B vv.length d] 102)).drew) := Lib.hid (below_alloc D0.out (.cells #[Value.slice B vv.length d] 102))
  have W1z : Hid (Below w.heap.size w (w.alloc (.cells #[Value.slice Bz vv.length dz] 102)).drew) := Lib.hid (below_alloc D0.out (.cells #[Value.slice Bz vv.length dz] 102))
  go_wp2_with fail
  have sW1 := str_of A a k _ (HK.out.below W1.out)
  have sW2 := str_of A a k _ (HK.out.below W1z.out)
  rw [HKL.out] at sW1 sW2
  have eD := (HT.out.keep D0.out).c0
  have eZ := (HT.out.keep DZ.out).c0
  have eW1 := (HT.out.keep W1.out).c0
  have eW2 := (HT.out.keep W1z.out).c0
  go_region_held3 (fun w' => w'.cell? ⟨p, 0, none⟩ = some (.map (some b)) ∧ (convert 27 9 (.slice A kl a)).run Try.prog w' = .ok (.string ⟨k.toArray⟩) w') (first | exact ⟨eD, s0⟩ | exact ⟨eZ, s1⟩ | exact ⟨eW1, sW1⟩ | exact ⟨eW2, sW2⟩ | go_keep) (fail)
  all_goals
    go_wp2_with fail
    first
      | (obtain ⟨w1, hw1, U1⟩ : ∃ w1, (w.alloc (.cells #[Value.slice B vv.length d] 102)).drew = w1 ∧ Hid (Below w.heap.size w w1) := ⟨_, rfl, W1⟩
         rw [hw1])
      | (obtain ⟨w1, hw1, U1⟩ : ∃ w1, (w.alloc (.cells #[Value.slice Bz vv.length dz] 102)).drew = w1 ∧ Hid (Below w.heap.size w w1) := ⟨_, rfl, W1z⟩
         rw [hw1])
    clear hw1 W1 W1z s0 s1 hlk hlkz c0
    have T1 := Lib.hid (HT.out.keep U1.out)
    have d0 := T1.out.c0
    have TD : Hid (TOver w1.drew p b n l c m q) := Lib.hid (T1.out.keep (below_drewN (Below.refl w1.heap.size w1) 1))
    have KS : Hid (Bs w1.drew A a k) := Lib.hid ((HK.out.below U1.out).drewN 1)
    have s2 := str_of A a k w1.drew KS.out
    rw [HKL.out] at s2
    obtain ⟨w3, hdel, t3, k3⟩ := tdel_run TD.out.is_ k KS.out.max
    have T3 := Lib.hid (TD.out.turn k3 t3)
    have K3 : Hid (Only w w3 (fun i => i = b)) := Lib.hid ((Only.of_below (below_step U1.out (show Below w1.heap.size w1 w1.drew from below_drewN (Below.refl w1.heap.size w1) 1)) (fun i => i = b)).then_ k3 (fun i h => .inl h))
    have f0 := T3.out.c0
    have e2 := TD.out.c0
    have s3 := str_of A a k w3 (bs_only KS.out k3 (fun i hi _ => by rw [hi]; exact TD.out.is_.noU8))
    rw [HKL.out] at s3
    clear t3 k3
    go_region_held3 (fun w' => w'.cell? ⟨p, 0, none⟩ = some (.map (some b)) ∧ (convert 27 9 (.slice A kl a)).run Try.prog w' = .ok (.string ⟨k.toArray⟩) w') (first | exact ⟨e2, s2⟩ | exact ⟨f0, s3⟩ | go_keep) (fail)
    go_wp2_with fail
    go_ret
    exact ⟨rfl, T3.out, K3.out⟩
end Go.Proofs.Ytnhfeoniiadjfaa.Lst
/- Sets of changes. -/
namespace Go.Proofs.Ytnhfeoniiadjfaa.Lst
open Go.RowKit Go.Maps Go.Sort Go.Shelf Go.Proofs.Ytnhfeoniiadjfaa.K Go.Proofs.Ytnhfeoniiadjfaa.Help Go.Proofs.Ytnhfeoniiadjfaa.Pfx Go.Proofs.Ytnhfeoniiadjfaa.Peer
set_option linter.unusedVariables false

/-- the sets under way -/
structure S5 (w wr : World) (v : Value) (s : List SetD) : Prop where
  o : OwnL SetE 37 wr (fun _ => False) w.heap.size v s
  b : Below w.heap.size w wr
section
variable {w wr w1 : World} {v v1 : Value} {s : List SetD}
theorem S5.start (w : World) : S5 w w (.slice none 0 0) [] := ⟨OwnL.nil _ _ _ _ _, Below.refl _ _⟩
theorem S5.step (h : S5 w wr v s) (hb : Below wr.heap.size wr w1) : S5 w w1 v s := ⟨h.o.below hb, below_step h.b hb⟩
theorem S5.push (h : S5 w wr v s) {x : SetD} (o : OwnL SetE 37 w1 (fun _ => False) w.heap.size v1 (s ++ [x])) (k : Only wr w1 (fun k => v.ownBlock = some k)) : S5 w w1 v1 (s ++ [x]) :=
  ⟨o, below_only h.b k (fun i hi => h.o.base_le hi)⟩
theorem S5.el (h : S5 w wr v s) {W1 : World} {A B : Option Addr} {a b : Nat} {key val : List UInt8} {g : Bool} (h1 : Bs W1 A a key) (n1 : Nw wr A) (h2 : Bs W1 B b val) (n2 : Nw wr B) :
    SetE.R W1 (fun k => False ∨ v.ownBlock = some k) [Value.slice A key.length a, .slice B val.length b, .bool g] (key, val, g) :=
  ⟨A, a, B, b, rfl, Bs.fresh h1 n1 (fun i hi => hi.elim (fun h => h.elim) (fun e => h.o.lt e)), Bs.fresh h2 n2 (fun i hi => hi.elim (fun h => h.elim) (fun e => h.o.lt e))⟩
theorem S5.iter (h : S5 w wr v s) {b r n cnt : Nat} {D : DataW Value} {left : Lit → Bool} (hr : wr.ranges Try.prog 9 RH b r n D left cnt) (hb : b < w.heap.size) (k : Only wr w1 (fun k => v.ownBlock = some k)) : w1.ranges Try.prog 9 RH b r n D left cnt := by
  refine ranges_blk hr (k.block b (Nat.lt_of_lt_of_le hb h.b.size) (fun e => by have := h.o.base_le e; omega)) (k.block r hr.lt (fun e => ?_))
  obtain ⟨cs, hc⟩ := h.o.blk e
  obtain ⟨es, clock, since, seen, c0, a1, a2, a3, a4, a5, a6⟩ := hr
  rw [a5] at hc
  cases hc
theorem ranges_noCell {b r n cnt : Nat} {D : DataW Value} {left : Lit → Bool} (h : w.ranges Try.prog 9 RH b r n D left cnt) : NoCell w r := by
  obtain ⟨es, clock, since, seen, c0, a1, a2, a3, a4, a5, a6⟩ := h
  intro j
  simp [World.cell?, a5]
theorem BsN.avoid2 {N : Nat → Prop} {A : Option Addr} {c r : Nat} {l : List UInt8} (h : BsN w N A c l) (hb : NoCell w r) : BsN w (fun i => i = r ∨ N i) A c l :=
  ⟨h.1, fun hl ad e hn => hn.elim (fun hn => ((BsN.avoid (Bs.bsn h.1) hb).2 hl ad e hn)) (fun hn => h.2 hl ad e hn)⟩
theorem S5.next (h : S5 w wr v s) {b r n cnt : Nat} {D : DataW Value} {left : Lit → Bool} (hr : wr.ranges Try.prog 9 RH b r n D left cnt) (k : Only wr w1 (fun i => i = r)) (hw : w.heap.size ≤ r) : S5 w w1 v s := by
  refine ⟨?_, below_only h.b k (fun i hi => by omega)⟩
  have hn := ranges_noCell hr
  have hne : ∀ i, v.ownBlock = some i → ¬ i = r := fun i hi e => by
    obtain ⟨cs, hc⟩ := h.o.blk hi
    obtain ⟨es, clock, since, seen, c0, a1, a2, a3, a4, a5, a6⟩ := hr
    rw [e, a5] at hc
    cases hc
  obtain ⟨raws, hl, ho, hm, hR⟩ := h.o
  refine ⟨raws, hl, row_keep ho k hne, hm, fun i x raw hx hw => ?_⟩
  obtain ⟨A1, a1, B1, b1, e1, s1, s2⟩ := hR i x raw hx hw
  have h2 : SetE.R wr (fun i => i = r ∨ (False ∨ v.ownBlock = some i)) raw x := ⟨A1, a1, B1, b1, e1, s1.avoid2 hn, s2.avoid2 hn⟩
  exact SetE.reno (SetE.only h2 k (fun i _ hi => .inl hi)) (fun i hi => .inl (.inr hi))
end
theorem raw_any {was is_ : List RowD} (h1 : (was.map Prod.fst).Nodup) (h2 : (is_.map Prod.fst).Nodup) {ss tt : List (List UInt8)} (hs : ss.Perm (is_.map Prod.fst)) (ht : tt.Perm (was.map Prod.fst)) :
    ((tt.foldl (stepPB is_) (ss.foldl (stepPA was is_) [])).map Prod.fst).Nodup ∧ sortS (tt.foldl (stepPB is_) (ss.foldl (stepPA was is_) [])) = setsOf was is_ := by
  have key : ∀ {l : List RowD} (hn : (l.map Prod.fst).Nodup) {ks : List (List UInt8)}, ks.Perm (l.map Prod.fst) → (ks.map (fun k => (k, valOf l k))).Perm l := fun {l} hn {ks} hk => by
    have h1 := hk.map (fun k => (k, valOf l k))
    have h2 : (l.map Prod.fst).map (fun k => (k, valOf l k)) = l := by
      rw [List.map_map]
      conv => rhs; rw [← List.map_id l]
      apply List.map_congr_left
      intro r hr
      show (r.1, valOf l r.1) = r
      rw [valOf_mem hn hr]
    rwa [h2] at h1
  have hp : (tt.foldl (stepPB is_) (ss.foldl (stepPA was is_) [])).Perm (is_.filterMap (fA was) ++ was.filterMap (fB is_)) := by
    rw [foldPA, foldPB, List.nil_append]
    exact ((key h2 hs).filterMap _).append ((key h1 ht).filterMap _)
  have hn := (hp.map Prod.fst).nodup_iff.2 (all_nodup h1 h2)
  refine ⟨hn, ?_⟩
  rw [setsOf_eq]
  obtain ⟨s1, p1⟩ := fold_ins ltS_asym ltS_tr (is_.filterMap (fA was) ++ was.filterMap (fB is_)) [] List.Pairwise.nil
  rw [List.nil_append] at p1
  have p2 := (sortS_perm _).trans hp
  refine List.Perm.eq_of_pairwise (le := fun a b => ltS b a = false) (fun a b ha hb e1 e2 => ?_) (sortS_sorted _) s1 (p2.trans p1.symm)
  exact one_fst (all_nodup h1 h2) (p2.mem_iff.1 ha) (p1.mem_iff.1 hb) (lessB_total e2 e1)
/-- the closure of the sort -/
theorem setsCmpT_any (A C : Option Addr) (a c : Nat) (k m : List UInt8) (v1 g1 v2 g2 : Value) (W : World) (o1 : v1.oneCell' = true) (o2 : v2.oneCell' = true) (h1 : Bs W A a k) (h2 : Bs W C c m) :
    Calls Try.prog 60 #[.agg #[.slice A k.length a, v1, g1], .agg #[.slice C m.length c, v2, g2]] W (fun e w' => e = .returned (.int .i64 (Lib.compareBytes k m)) ∧ ∃ q os', w' = grow (W.drewN q) os') := by
  have hb1 := below_alloc (Below.refl W.heap.size W) (.cells #[.slice A k.length a, v1, g1] 37)
  have hb2 := below_alloc hb1 (.cells #[.slice C m.length c, v2, g2] 37)
  have BC := Lib.hid (sliceCmp_any A C a c k m _ (h1.below hb2) (h2.below hb2))
  have q1 := blk_alloc (blk_new W (.cells #[.slice A k.length a, v1, g1] 37)) (.cells #[.slice C m.length c, v2, g2] 37)
  have p0 := (blk_cell q1 0).trans (b := some (Value.slice A k.length a)) rfl
  have q2 : ((W.alloc (.cells #[.slice A k.length a, v1, g1] 37)).alloc (.cells #[.slice C m.length c, v2, g2] 37)).heap[W.heap.size + 1]? = some (.cells #[.slice C m.length c, v2, g2] 37 (0, 0)) := by
    have := blk_new (W.alloc (.cells #[.slice A k.length a, v1, g1] 37)) (.cells #[.slice C m.length c, v2, g2] 37)
    simpa using this
  have p1 := (blk_cell q2 0).trans (b := some (Value.slice C m.length c)) rfl
  clear hb1 hb2 q1 q2 h1 h2
  generalize Lib.compareBytes k m = r at *
  go_enter Try.func60, Try.ntmps60
  go_wp2_with (go_at_call 61; refine BC.out.mono ?_; rintro e w' ⟨rfl, rfl⟩)
  go_ret
  exact ⟨rfl, 0, _, by rw [alloc_eq_grow, alloc_eq_grow, grow_grow]; rfl⟩
theorem sortT_any (W : World) (B : Nat) (v : Value) (l : List SetD) (hO : OwnL SetE 37 W (fun _ => False) B v l) (hn : (l.map Prod.fst).Nodup) :
    Calls Try.prog 59 #[v, .func (.func 60) #[] #[]] W (fun e w' => e = .returned (.tuple #[]) ∧ OwnL SetE 37 w' (fun _ => False) B v (sortS l) ∧ Only W w' (fun i => v.ownBlock = some i)) :=
  sortSets_gen 60 (enters_of Try.func60 (by kernel_rfl) rfl) setsCmpT_any W B v l hO hn
end Go.Proofs.Ytnhfeoniiadjfaa.Lst
/- The walk of Sets of changes. -/
namespace Go.Proofs.Ytnhfeoniiadjfaa.Lst
open Go.RowKit Go.Maps Go.Sort Go.Shelf Go.Proofs.Ytnhfeoniiadjfaa.K Go.Proofs.Ytnhfeoniiadjfaa.Help Go.Proofs.Ytnhfeoniiadjfaa.Pfx Go.Proofs.Ytnhfeoniiadjfaa.Peer
set_option linter.unusedVariables false

theorem stepPA_eq (was is_ : List RowD) (s : List SetD) (k : List UInt8) : stepPA was is_ s k = if (hasK was k && decide (valOf was k = valOf is_ k)) = true then s else s ++ [(k, valOf is_ k, false)] := rfl
theorem stepPB_eq (is_ : List RowD) (s : List SetD) (k : List UInt8) : stepPB is_ s k = if hasK is_ k = true then s else s ++ [(k, [], true)] := rfl
theorem fold_snoc {α β : Type} (f : β → α → β) (s : β) (ss : List α) (x : α) : (ss ++ [x]).foldl f s = f (ss.foldl f s) x := by simp
theorem nw_far (w : World) (k : Nat) : Nw w (some ⟨w.heap.size + k, 0, none⟩) := fun ad e => by injection e with e; rw [← e]; exact Nat.le_add_right _ _
set_option maxRecDepth 100000 in
set_option maxHeartbeats 4000000 in
theorem osets_any (p b n c m : Nat) (l q : List RowD) (w : World) (h : TOver w p b n l c m q) (hn : n ≤ 100000) (hm : m ≤ 100000) :
    Calls Try.prog 31 #[.pointer (some ⟨p, 0, none⟩)] w (RetL SetE w (setsOf q l)) := by
  have HT := Lib.hid h
  have c0 := h.c0
  have HBL := Lib.hid h.is_.lt
  have HCL := Lib.hid h.was.lt
  have HPL := Lib.hid h.lt
  have HN := Lib.hid hn
  have HM := Lib.hid hm
  have N1 := Lib.hid h.is_.srt.nodup
  have N2 := Lib.hid h.was.srt.nodup
  obtain ⟨D, g1, g2⟩ := h.is_
  obtain ⟨E, e1, e2⟩ := h.was
  have G := Lib.hid g1
  have HL := Lib.hid g2
  have HS := Lib.hid g1.size_le
  have GE := Lib.hid e1
  have HLE := Lib.hid e2
  have HSE := Lib.hid e1.size_le
  have KD := Lib.hid (TMap.keys g1 g2)
  have KE := Lib.hid (TMap.keys e1 e2)
  clear h hn hm g1 g2 e1 e2
  go_enter Try.func31, Try.ntmps31
  go_wp2_with (first
    | (at_range; refine wpList_range_own _ rfl _ 57 rfl 9 102 K_str u_tmap _ b _ _ rfl G.out ?_; intro w0 hrg0 hg0 hs0)
    | go_in)
  go_frame
  have HG0 := Lib.hid ((Below.refl w.heap.size w).grown hg0 (Nat.le_refl _) (fun j hj => by cases hj))
  have HRG0 := Lib.hid hrg0
  clear hg0 hrg0 hs0 c0
  go_loopw [3] (fun v wr => ∃ (left : Lit → Bool) (cnt : Nat) (ss : List (List UInt8)) (s : List SetD), wr.ranges Try.prog 9 RH b w.heap.size n D left cnt ∧ Hid (ss.length + cnt ≤ Maps.size D) ∧
      Hid (S5 w wr v s) ∧ Hid (ss.foldl (stepPA q l) [] = s) ∧ Hid (s.length ≤ ss.length) ∧ Collected D left ss)
    (fun _ wr => wr.rangeLeft b w.heap.size)
  case atStart =>
    exact ⟨_, _, [], [], HRG0.out, by simp [Hid], (S5.start w).step HG0.out, rfl, by simp [Hid], Collected.start _⟩
  case round =>
    obtain ⟨left, cnt, ss, s, hrg, hcs, hS, hF, hsl, hC⟩ := hrel
    obtain ⟨A0, k0, rfl⟩ := hS.out.o.slice
    go_wp2_with (first
      | (at_next; refine wpList_next_ranges _ rfl _ rfl 9 K_str RH encStr (fun v : Value => v) (fun key kl hk => by obtain ⟨x, hx, _⟩ := Maps.keyOf_str u_str hk; exact ⟨x, hx⟩) (fun v y hv => ⟨v, rfl⟩) b w.heap.size _ _ _ _ rfl hrg ?_ ?_)
      | go_in)
    · intro hc0 hl0
      have hp := hC.perm G.out K_str u_str hl0
      have HP := Lib.hid (hp.trans KD.out.symm)
      have T0 := Lib.hid (HT.out.keep hS.out.b)
      have d1 := T0.out.c1
      have GW := Lib.hid (owns_blk GE.out (hS.out.b.block c HCL.out))
      have hl2 := hsl.out
      have HSB : Hid (s.length ≤ 100000) := by have h1 := hcs.out; have h2 := HS.out; have h3 := HN.out; rw [Hid]; omega
      have HWS := Lib.hid hS.out.b.size
      clear hp hC hcs hrg hl0 hc0 hl2 T0
      go_wp2_with (first
        | (at_range; refine wpList_range_own _ rfl _ 57 rfl 9 102 K_str u_tmap _ c _ _ rfl GW.out ?_; intro w0 hrg0 hg0 hs0)
        | go_in)
      go_frame
      have HS0 := Lib.hid (hS.out.step ((Below.refl wr.heap.size wr).grown hg0 (Nat.le_refl _) (fun j hj => by cases hj)))
      have HRG0 := Lib.hid hrg0
      generalize hrr : wr.heap.size = r2 at *
      generalize hv3 : Value.slice A0 s.length k0 = v3 at *
      clear hg0 hrg0 hs0 d1 hv3 hS hrr
      go_loopw [3] (fun v wr => ∃ (left : Lit → Bool) (cnt : Nat) (tt : List (List UInt8)) (s2 : List SetD), wr.ranges Try.prog 9 RH c r2 m E left cnt ∧ Hid (tt.length + cnt ≤ Maps.size E) ∧
          Hid (S5 w wr v s2) ∧ Hid (tt.foldl (stepPB l) s = s2) ∧ Hid (s2.length ≤ s.length + tt.length) ∧ Collected E left tt)
        (fun _ wr => wr.rangeLeft c r2)
      case atStart =>
        exact ⟨_, _, [], s, HRG0.out, by simp [Hid], HS0.out, rfl, by simp [Hid], Collected.start _⟩
      case round =>
        clear HS0
        obtain ⟨left, cnt, tt, s2, hrg, hcs, hS, hF2, hsl2, hC⟩ := hrel
        obtain ⟨A0, k0, rfl⟩ := hS.out.o.slice
        go_wp2_with (first
          | (at_next; refine wpList_next_ranges _ rfl _ rfl 9 K_str RH encStr (fun v : Value => v) (fun key kl hk => by obtain ⟨x, hx, _⟩ := Maps.keyOf_str u_str hk; exact ⟨x, hx⟩) (fun v y hv => ⟨v, rfl⟩) c r2 _ _ _ _ rfl hrg ?_ ?_)
          | go_in)
        · intro hc0 hl0
          have HP2 := Lib.hid ((hC.perm GE.out K_str u_str hl0).trans KE.out.symm)
          have hra := raw_any N2.out N1.out HP.out HP2.out
          rw [hF.out, hF2.out] at hra
          have RA := Lib.hid hra
          have ST := Lib.hid (sortT_any _ _ _ s2 hS.out.o RA.out.1)
          have OS := Lib.hid hS.out
          clear hra hC hcs hrg hl0 hc0 hS
          go_wp2_with fail
          (with_reducible refine ST.out.mono ?_)
          rintro e w6 ⟨rfl, o6, k6⟩
          obtain ⟨A9, a9, e9, l9⟩ := o6.lst (fun _ _ h => h)
          rw [RA.out.2] at e9 l9
          have E9 := Lib.hid e9
          have L9 := Lib.hid l9
          have W6 := Lib.hid (below_only OS.out.b k6 (fun i hi => OS.out.o.base_le hi))
          clear e9 l9 o6 k6
          go_wp2_with fail
          go_ret
          exact ⟨A9, a9, by show Ending.returned (.slice A0 s2.length k0) = _; rw [E9.out], L9.out, W6.out⟩
        · intro x cv kl yd yp w2 cnt2 hkey hlk hv hat hrg2 hlt hg2 hs2 hen
          obtain ⟨x', ex, rfl, _⟩ := Maps.keyOf_str u_str hkey
          obtain rfl : x = x' := encStr_inj ex
          have k2 : Only wr w2 (fun i => i = r2) := (Only.refl wr _).grown hg2 (fun k hk => by injection hk with hk; exact .inl hk.symm)
          have hS2 := hS.out.next hrg k2 HWS.out
          have hhl2 := HLE.out.bs (fun s => s.below hS2.b)
          have HT2 := HT.out.keep hS2.b
          obtain ⟨hh, B, d, rfl, sB⟩ := hhl2.entry hv hat
          have hx47 : x.length ≤ 140737488355328 := hhl2.len _ (mem_val hhl2.srt.nodup hh)
          have HST : (tt ++ [x]).foldl (stepPB l) s = _ := (show _ = stepPB l s2 x by rw [fold_snoc, hF2.out]).trans (stepPB_eq l s2 x)
          obtain ⟨B2, d2, hlook, sU⟩ := tlook_run HT2.is_ x hx47
          have y1 := HT2.c0
          generalize valOf l x = u at *
          have HRG2 := Lib.hid hrg2
          have HRG := Lib.hid hrg
          have HCC := Lib.hid (hC.step hlk hat)
          have HLT := Lib.hid hlt
          have HCS := Lib.hid hcs.out
          have HS2 := Lib.hid hS2
          have HXK := Lib.hid hx47
          have HB3 := Lib.hid (below_alloc (Below.refl w2.heap.size w2) (.cells #[Value.slice B2 u.length d2] 102))
          unfold encStr at hen
          generalize hhk : hasK l x = hk at *
          clear hhk
          clear hs2 hcs hlt hg2 hrg2 hrg hC hlk hat hkey hv ex k2 hS2 hhl2 HT2 hh hx47 sB sU hS
          cases hk
          · have HST2 : Hid ((tt ++ [x]).foldl (stepPB l) s = s2 ++ [(x, [], true)]) := HST
            clear HST
            obtain ⟨cap, w5, hcv, s5, hb5⟩ := bytes_of (w2.alloc (.cells #[Value.slice B2 u.length d2] 102)) x HXK.out
            rw [show (w2.alloc (.cells #[Value.slice B2 u.length d2] 102)).heap.size = w2.heap.size + 1 by simp] at hcv s5
            have hb7 := below_alloc (Below.refl w5.heap.size w5) (.cells #[.slice (some ⟨w2.heap.size + 1, 0, none⟩) x.length cap, .slice none 0 0, .bool true] 37)
            have HB7 := Lib.hid (below_step (below_step HB3.out hb5) hb7)
            have E7 := Lib.hid (HS2.out.el (g := true) (s5.below hb7) (nw_far w2 1) (b := 0) (val := []) (Bs.nil _ _ _) (Nw.none _))
            have S7 := Lib.hid (HS2.out.step HB7.out)
            have X7 := Lib.hid (blk_new w5 (.cells #[.slice (some ⟨w2.heap.size + 1, 0, none⟩) x.length cap, .slice none 0 0, .bool true] 37))
            have R7 := Lib.hid (ranges_blk HRG2.out (HB7.out.block c (ranges_b_lt HRG2.out)) (HB7.out.block r2 HRG2.out.lt))
            clear s5 hb5 hb7
            go_wp2_with (at_builtin; refine push (E := SetE) 37 22 _ 56 rfl (.tmp 70) (.tmp 74) rfl Try.underlying22 info_set rfl (by decide) (by decide) (by decide) (.slice A0 s2.length k0) s2 (x, [], true) _ w5.heap.size 1 rfl rfl S7.out.o X7.out E7.out S7.out.b.size (by have := hsl2.out; have := HCS.out; have := HSE.out; have := HM.out; have := HSB.out; omega) ?_ (fun _ h => h.elim); intro A8 c8 w8 o8 k8 n8; have S8 := Lib.hid (S7.out.push o8 k8); have R8 := Lib.hid (S7.out.iter R7.out HCL.out k8); clear o8 k8 n8)
            go_roundw
            case rel => exact ⟨_, cnt2, tt ++ [x], _, R8.out, by have := HCS.out; have := HLT.out; simp [Hid]; omega, by simpa using S8, HST2, by have := hsl2.out; simp [Hid]; omega, HCC.out⟩
            case measure => rw [R8.out.left_eq, HRG.out.left_eq]; exact HLT.out
          · have HST2 : Hid ((tt ++ [x]).foldl (stepPB l) s = s2) := by rw [Hid, HST]; simp
            clear HST
            go_wp2_with fail
            have R4 := Lib.hid (ranges_blk HRG2.out (HB3.out.block c (ranges_b_lt HRG2.out)) (HB3.out.block r2 HRG2.out.lt))
            go_roundw
            case rel => exact ⟨_, cnt2, tt ++ [x], s2, R4.out, by have := HCS.out; have := HLT.out; simp [Hid]; omega, HS2.out.step HB3.out, HST2, by have := hsl2.out; simp [Hid]; omega, HCC.out⟩
            case measure => rw [R4.out.left_eq, HRG.out.left_eq]; exact HLT.out
    · intro x cv kl yd yp w2 cnt2 hkey hlk hv hat hrg2 hlt hg2 hs2 hen
      obtain ⟨x', ex, rfl, _⟩ := Maps.keyOf_str u_str hkey
      obtain rfl : x = x' := encStr_inj ex
      have k2 : Only wr w2 (fun i => i = w.heap.size) := (Only.refl wr _).grown hg2 (fun k hk => by injection hk with hk; exact .inl hk.symm)
      have hS2 := hS.out.next hrg k2 (Nat.le_refl _)
      have hhl2 := HL.out.bs (fun s => s.below hS2.b)
      have HT2 := HT.out.keep hS2.b
      obtain ⟨hh, B, d, rfl, sB⟩ := hhl2.entry hv hat
      have hx47 : x.length ≤ 140737488355328 := hhl2.len _ (mem_val hhl2.srt.nodup hh)
      have HST : (ss ++ [x]).foldl (stepPA q l) [] = _ := (show _ = stepPA q l s x by rw [fold_snoc, hF.out]).trans (stepPA_eq q l s x)
      generalize valOf l x = v at *
      have hb3 := below_alloc (Below.refl w2.heap.size w2) (.cells #[Value.slice B v.length d] 102)
      obtain ⟨B2, d2, hlook, sU⟩ := tlook_run (HT2.keep hb3).was x hx47
      have y1 := (HT2.keep hb3).c1
      generalize valOf q x = u at *
      have hx3 := blk_two w2 (.cells #[Value.slice B v.length d] 102) (.cells #[Value.slice B2 u.length d2] 102)
      have hx2 := blk_alloc (blk_new w2 (.cells #[Value.slice B v.length d] 102)) (.cells #[Value.slice B2 u.length d2] 102)
      have hb4 := below_alloc hb3 (.cells #[Value.slice B2 u.length d2] 102)
      have hbU := below_alloc (Below.refl (w2.alloc (.cells #[Value.slice B v.length d] 102)).heap.size _) (.cells #[Value.slice B2 u.length d2] 102)
      have x0 := (blk_cell hx2 0).trans (b := some (Value.slice B v.length d)) rfl
      have x1 := (blk_cell hx3 0).trans (b := some (Value.slice B2 u.length d2)) rfl
      have sv := str_of B d v _ (sB.below hb4)
      have su := str_of B2 d2 u _ (sU.below hbU)
      have HRG2 := Lib.hid hrg2
      have HRG := Lib.hid hrg
      have HCC := Lib.hid (hC.step hlk hat)
      have HLT := Lib.hid hlt
      have HCS := Lib.hid hcs.out
      have HS2 := Lib.hid hS2
      have HB4 := Lib.hid hb4
      have SB4 := Lib.hid (sB.below hb4)
      have HX2 := Lib.hid hx2
      have HXK := Lib.hid hx47
      unfold encStr at hen
      generalize hhk : hasK q x = hk at *
      clear hhk
      clear hs2 hcs hlt hg2 hrg2 hrg hC hlk hat hkey hv ex k2 hS2 hhl2 HT2 hh hx47 sB hb3 hb4 hbU sU hx2 hx3 hS
      by_cases hsk : hk = true ∧ u = v
      · obtain ⟨rfl, rfl⟩ := hsk
        have HST2 : Hid ((ss ++ [x]).foldl (stepPA q l) [] = s) := by rw [Hid, HST]; simp
        have t1 : (u == u) = true := by simp
        have t2 : (u != u) = false := by simp
        clear HST
        go_wp2_with fail
        have R4 := Lib.hid (ranges_blk HRG2.out (HB4.out.block b (ranges_b_lt HRG2.out)) (HB4.out.block w.heap.size HRG2.out.lt))
        go_roundw
        case rel => exact ⟨_, cnt2, ss ++ [x], s, R4.out, by have := HCS.out; have := HLT.out; simp [Hid]; omega, HS2.out.step HB4.out, HST2, by have := hsl.out; simp [Hid]; omega, HCC.out⟩
        case measure => rw [R4.out.left_eq, HRG.out.left_eq]; exact HLT.out
      · have HST2 : Hid ((ss ++ [x]).foldl (stepPA q l) [] = s ++ [(x, v, false)]) := by
          rw [Hid, HST, if_neg]
          intro hb
          rw [Bool.and_eq_true] at hb
          exact hsk ⟨hb.1, of_decide_eq_true hb.2⟩
        rcases (show hk = false ∨ (hk = true ∧ u ≠ v) by cases hk <;> simp_all) with rfl | ⟨rfl, hne⟩
        · clear HST hsk
          obtain ⟨cap, w5, hcv, s5, hb5⟩ := bytes_of ((w2.alloc (.cells #[Value.slice B v.length d] 102)).alloc (.cells #[Value.slice B2 u.length d2] 102)) x HXK.out
          rw [show ((w2.alloc (.cells #[Value.slice B v.length d] 102)).alloc (.cells #[Value.slice B2 u.length d2] 102)).heap.size = w2.heap.size + 2 by simp] at hcv s5
          have x5 : w5.cell? ⟨w2.heap.size, 0, none⟩ = some (.slice B v.length d) := (blk_cell ((hb5.block _ (by simp; omega)).trans HX2.out) 0).trans rfl
          have CL := Lib.hid (clone_any B d v w5 (SB4.out.below hb5))
          have HB5 := Lib.hid (below_step HB4.out hb5)
          have K5 := Lib.hid s5
          clear s5 hb5
          go_wp2_with fail
          (with_reducible refine CL.out.mono ?_)
          rintro e w6 ⟨B6, d6, rfl, s6, hb6, n6⟩
          have hb7 := below_alloc (Below.refl w6.heap.size w6) (.cells #[.slice (some ⟨w2.heap.size + 2, 0, none⟩) x.length cap, .slice B6 v.length d6, .bool false] 37)
          have HB7 := Lib.hid (below_step (below_step HB5.out hb6) hb7)
          have E7 := Lib.hid (HS2.out.el (g := false) ((K5.out.below hb6).below hb7) (nw_far w2 2) (s6.below hb7) (n6.back HB5.out.size))
          have S7 := Lib.hid (HS2.out.step HB7.out)
          have X7 := Lib.hid (blk_new w6 (.cells #[.slice (some ⟨w2.heap.size + 2, 0, none⟩) x.length cap, .slice B6 v.length d6, .bool false] 37))
          have R7 := Lib.hid (ranges_blk HRG2.out (HB7.out.block b (ranges_b_lt HRG2.out)) (HB7.out.block w.heap.size HRG2.out.lt))
          clear s6 hb6 n6 hb7
          go_wp2_with (at_builtin; refine push (E := SetE) 37 22 _ 56 rfl (.tmp 41) (.tmp 48) rfl Try.underlying22 info_set rfl (by decide) (by decide) (by decide) (.slice A0 s.length k0) s (x, v, false) _ w6.heap.size 1 rfl rfl S7.out.o X7.out E7.out S7.out.b.size (by have := hsl.out; have := HCS.out; have := HS.out; have := HN.out; omega) ?_ (fun _ h => h.elim); intro A8 c8 w8 o8 k8 n8; have S8 := Lib.hid (S7.out.push o8 k8); have R8 := Lib.hid (S7.out.iter R7.out HBL.out k8); clear o8 k8 n8)
          go_roundw
          case rel => exact ⟨_, cnt2, ss ++ [x], _, R8.out, by have := HCS.out; have := HLT.out; simp [Hid]; omega, by simpa using S8, HST2, by have := hsl.out; simp [Hid]; omega, HCC.out⟩
          case measure => rw [R8.out.left_eq, HRG.out.left_eq]; exact HLT.out
        · have t1 : (u == v) = false := by simpa using hne
          have t2 : (u != v) = true := by simpa using hne
          clear HST hsk hne
          obtain ⟨cap, w5, hcv, s5, hb5⟩ := bytes_of ((w2.alloc (.cells #[Value.slice B v.length d] 102)).alloc (.cells #[Value.slice B2 u.length d2] 102)) x HXK.out
          rw [show ((w2.alloc (.cells #[Value.slice B v.length d] 102)).alloc (.cells #[Value.slice B2 u.length d2] 102)).heap.size = w2.heap.size + 2 by simp] at hcv s5
          have x5 : w5.cell? ⟨w2.heap.size, 0, none⟩ = some (.slice B v.length d) := (blk_cell ((hb5.block _ (by simp; omega)).trans HX2.out) 0).trans rfl
          have CL := Lib.hid (clone_any B d v w5 (SB4.out.below hb5))
          have HB5 := Lib.hid (below_step HB4.out hb5)
          have K5 := Lib.hid s5
          clear s5 hb5
          go_wp2_with fail
          (with_reducible refine CL.out.mono ?_)
          rintro e w6 ⟨B6, d6, rfl, s6, hb6, n6⟩
          have hb7 := below_alloc (Below.refl w6.heap.size w6) (.cells #[.slice (some ⟨w2.heap.size + 2, 0, none⟩) x.length cap, .slice B6 v.length d6, .bool false] 37)
          have HB7 := Lib.hid (below_step (below_step HB5.out hb6) hb7)
          have E7 := Lib.hid (HS2.out.el (g := false) ((K5.out.below hb6).below hb7) (nw_far w2 2) (s6.below hb7) (n6.back HB5.out.size))
          have S7 := Lib.hid (HS2.out.step HB7.out)
          have X7 := Lib.hid (blk_new w6 (.cells #[.slice (some ⟨w2.heap.size + 2, 0, none⟩) x.length cap, .slice B6 v.length d6, .bool false] 37))
          have R7 := Lib.hid (ranges_blk HRG2.out (HB7.out.block b (ranges_b_lt HRG2.out)) (HB7.out.block w.heap.size HRG2.out.lt))
          clear s6 hb6 n6 hb7
          go_wp2_with (at_builtin; refine push (E := SetE) 37 22 _ 56 rfl (.tmp 41) (.tmp 48) rfl Try.underlying22 info_set rfl (by decide) (by decide) (by decide) (.slice A0 s.length k0) s (x, v, false) _ w6.heap.size 1 rfl rfl S7.out.o X7.out E7.out S7.out.b.size (by have := hsl.out; have := HCS.out; have := HS.out; have := HN.out; omega) ?_ (fun _ h => h.elim); intro A8 c8 w8 o8 k8 n8; have S8 := Lib.hid (S7.out.push o8 k8); have R8 := Lib.hid (S7.out.iter R7.out HBL.out k8); clear o8 k8 n8)
          go_roundw
          case rel => exact ⟨_, cnt2, ss ++ [x], _, R8.out, by have := HCS.out; have := HLT.out; simp [Hid]; omega, by simpa using S8, HST2, by have := hsl.out; simp [Hid]; omega, HCC.out⟩
          case measure => rw [R8.out.left_eq, HRG.out.left_eq]; exact HLT.out
end Go.Proofs.Ytnhfeoniiadjfaa.Lst
