/- Contracts of the functions that RowsState reaches: part 5 of 5. -/
import Derived.Test.YtgbjhlkjceonpaaGreatRowsStateB4
import Derived.Laws.IdiomStrings
import Derived.Carry
/- What the program's State answers, plain; what has been gathered; []byte(s). -/
namespace Go.Proofs.YtgbjhlkjceonpaaGreat.Lst
open Go.RowKit Go.Proofs.YtgbjhlkjceonpaaGreat.K Go.Proofs.YtgbjhlkjceonpaaGreat.Help Go.Proofs.YtgbjhlkjceonpaaGreat.Pfx Go.Proofs.YtgbjhlkjceonpaaGreat.Peer
set_option linter.unusedVariables false

abbrev T3 := List PeerD × List LaneD × Int
/-- one row -/
noncomputable def stepO (s : T3) (k v : List UInt8) : Option T3 :=
  match k with
  | [] => none
  | c :: _ =>
    if c = 80 then (if (peerGet k v).2 = 0 then some (s.1 ++ [(peerGet k v).1], s.2.1, s.2.2) else none)
    else if c = 76 then (if (laneGet k v).2 = 0 then some (s.1, s.2.1 ++ [(laneGet k v).1], s.2.2) else none)
    else if c = 66 then (if (bootsGet k v).2 = 0 then some (s.1, s.2.1, (bootsGet k v).1) else none)
    else none
def valOf (l : List RowD) (k : List UInt8) : List UInt8 := match l.find? (fun r => r.1 == k) with | some r => r.2 | none => []
noncomputable def stepK (l : List RowD) (s : Option T3) (k : List UInt8) : Option T3 := match s with | none => none | some s => stepO s k (valOf l k)
def keysL (l : List RowD) : List (List UInt8) := (l.map Prod.fst).mergeSort (fun x y => decide (x ≤ y))
noncomputable def foldK (l : List RowD) : Option T3 := (keysL l).foldl (stepK l) (some ([], [], 0))
noncomputable def ansK (o : Option T3) : AnsD := match o with | none => ([], [], 0, 114) | some s => if wholeB s.1 s.2.1 = true then (s.1, s.2.1, s.2.2, 0) else ([], [], 0, 114)
open Classical in
noncomputable def progState (l : List RowD) : AnsD := if (l.map Prod.fst).Nodup then ansK (foldK l) else ([], [], 0, 114)
theorem foldK_none (l : List RowD) : ∀ ks : List (List UInt8), ks.foldl (stepK l) none = none
  | [] => rfl
  | k :: t => foldK_none l t
theorem foldK_step (l : List RowD) (ks : List (List UInt8)) (s : Option T3) (j : Nat) (hj : j < ks.length) : (ks.take (j + 1)).foldl (stepK l) s = stepK l ((ks.take j).foldl (stepK l) s) (ks.getD j []) := by
  rw [List.take_succ_eq_append_getElem hj, List.foldl_append]
  simp [hj]
theorem foldK_stop (l : List RowD) (ks : List (List UInt8)) (s : Option T3) (j : Nat) (h : (ks.take j).foldl (stepK l) s = none) : ks.foldl (stepK l) s = none := by
  rw [← List.take_append_drop j ks, List.foldl_append, h, foldK_none]
/-- what has been gathered of l -/
def GOf (w : World) (l : List RowD) (rs : List GRow) : Prop := rs.length = l.length ∧ ∀ (i : Nat) (x : RowD), l[i]? = some x → ∃ B b, rs[i]? = some (x.1, .slice B x.2.length b) ∧ Bs w B b x.2
theorem GOf.nil (w : World) : GOf w [] [] := ⟨rfl, fun i x h => by simp at h⟩
theorem GOf.snoc {w : World} {l : List RowD} {rs : List GRow} (h : GOf w l rs) {x : RowD} {B : Option Addr} {b : Nat} (hb : Bs w B b x.2) : GOf w (l ++ [x]) (rs ++ [(x.1, .slice B x.2.length b)]) := by
  refine ⟨by simp [h.1], fun i y hy => ?_⟩
  by_cases hi : i < l.length
  · rw [List.getElem?_append_left hi] at hy
    obtain ⟨B', b', e, s⟩ := h.2 i y hy
    exact ⟨B', b', by rw [List.getElem?_append_left (by rw [h.1]; exact hi)]; exact e, s⟩
  · have e1 : i = l.length := by
      have := (List.getElem?_eq_some_iff.1 hy).1
      simp at this
      omega
    subst e1
    rw [List.getElem?_append_right (by omega), Nat.sub_self] at hy
    simp at hy
    subst hy
    exact ⟨B, b, by rw [← h.1]; simp, hb⟩
theorem GOf.fst {w : World} {l : List RowD} {rs : List GRow} (h : GOf w l rs) : rs.map Prod.fst = l.map Prod.fst := by
  apply List.ext_getElem?
  intro i
  rw [List.getElem?_map, List.getElem?_map]
  by_cases hi : i < l.length
  · obtain ⟨B, b, e, _⟩ := h.2 i l[i] (List.getElem?_eq_getElem hi)
    rw [e, List.getElem?_eq_getElem hi]
    rfl
  · have e1 : l[i]? = none := List.getElem?_eq_none (by omega)
    have e2 : rs[i]? = none := List.getElem?_eq_none (by rw [h.1]; omega)
    rw [e1, e2]; rfl
theorem find_pair {w : World} (k : List UInt8) : ∀ (l : List RowD) (rs : List GRow), GOf w l rs → k ∈ l.map Prod.fst → ∃ B b, lookG rs k = .slice B (valOf l k).length b ∧ Bs w B b (valOf l k)
  | [], rs, h, hk => by simp at hk
  | x :: t, rs, h, hk => by
    obtain ⟨B, b, e, s⟩ := h.2 0 x (by simp)
    match rs, h, e with
    | r :: rt, h, e =>
      simp at e
      subst e
      have ht : GOf w t rt := ⟨by have := h.1; simpa using this, fun i y hy => by simpa using h.2 (i + 1) y (by simpa using hy)⟩
      by_cases hx : x.1 = k
      · refine ⟨B, b, ?_, ?_⟩
        · simp [lookG, valOf, hx]
        · simpa [valOf, hx] using s
      · have hk2 : k ∈ t.map Prod.fst := by
          rw [List.map_cons, List.mem_cons] at hk
          exact hk.resolve_left (fun e => hx e.symm)
        obtain ⟨B', b', e', s'⟩ := find_pair k t rt ht hk2
        have hb : (x.1 == k) = false := by simpa using hx
        refine ⟨B', b', ?_, ?_⟩
        · unfold lookG valOf at e' ⊢
          rw [List.find?_cons, List.find?_cons, hb]
          exact e'
        · unfold valOf at s' ⊢
          rw [List.find?_cons, hb]
          exact s'
/-- []byte(s) -/
theorem bytes_of (w : World) (k : List UInt8) (hk : k.length ≤ 140737488355328) : ∃ cap w1, (convert 9 49 (.string ⟨k.toArray⟩)).run Tryz.prog w = .ok (.slice (some ⟨w.heap.size, 0, none⟩) k.length cap) w1
    ∧ Bs w1 (some ⟨w.heap.size, 0, none⟩) cap k ∧ Below w.heap.size w w1 := by
  have hrun := run_bytes_of_string (P := Tryz.prog) w 9 49 5 ⟨k.toArray⟩ u_str u_slice8 u_u8
  have hge := grownCap_ge w (ByteArray.size ⟨k.toArray⟩) 0 5
  have hsz : ByteArray.size ⟨k.toArray⟩ = k.length := by simp [ByteArray.size]
  generalize grownCap w (ByteArray.size ⟨k.toArray⟩) 0 5 = cap at *
  have hb : (w.drew.alloc (.cells (bytesRow ⟨k.toArray⟩ cap) 5 ((bytesRow ⟨k.toArray⟩ cap).size, (bytesRow ⟨k.toArray⟩ cap).size + 1))).heap[w.heap.size]? = some (.cells (bytesRow ⟨k.toArray⟩ cap) 5 ((bytesRow ⟨k.toArray⟩ cap).size, (bytesRow ⟨k.toArray⟩ cap).size + 1)) := by
    show (w.heap.push _)[w.heap.size]? = _
    simp
  have hB : Below w.heap.size w (w.drew.alloc (.cells (bytesRow ⟨k.toArray⟩ cap) 5 ((bytesRow ⟨k.toArray⟩ cap).size, (bytesRow ⟨k.toArray⟩ cap).size + 1))) := below_alloc (below_drewN (Below.refl _ _) 1) _
  rw [hsz] at hrun hge
  refine ⟨cap, _, hrun, ⟨hge, hk, fun i hi => ⟨_, rfl, blk_lt hb, ?_⟩⟩, hB⟩
  rw [addr_add_plain]
  refine (blk_cell hb i).trans ?_
  unfold bytesRow
  rw [Array.getElem?_append_left (by simpa using hi)]
  simp [hi]
end Go.Proofs.YtgbjhlkjceonpaaGreat.Lst
/- The two lists of State; its first loop. -/
namespace Go.Proofs.YtgbjhlkjceonpaaGreat.Lst
open Go.RowKit Go.Proofs.YtgbjhlkjceonpaaGreat.K Go.Proofs.YtgbjhlkjceonpaaGreat.Help Go.Proofs.YtgbjhlkjceonpaaGreat.Pfx Go.Proofs.YtgbjhlkjceonpaaGreat.Peer
set_option linter.unusedVariables false

/-- State's two lists under way -/
structure S2 (w2 wr : World) (vp vl : Value) (ps : List PeerD) (ls : List LaneD) : Prop where
  p : OwnL PeerE 52 wr (fun k => vl.ownBlock = some k) w2.heap.size vp ps
  l : OwnL LaneE 59 wr (fun k => vp.ownBlock = some k) w2.heap.size vl ls
  b : Below w2.heap.size w2 wr
section
variable {w2 wr w1 : World} {vp vl v1 : Value} {ps : List PeerD} {ls : List LaneD}
theorem S2.start (w2 : World) : S2 w2 w2 (.slice none 0 0) (.slice none 0 0) [] [] := ⟨OwnL.nil _ _ _ _ _, OwnL.nil _ _ _ _ _, Below.refl _ _⟩
theorem S2.step (h : S2 w2 wr vp vl ps ls) (hb : Below wr.heap.size wr w1) : S2 w2 w1 vp vl ps ls := ⟨h.p.below hb, h.l.below hb, below_step h.b hb⟩
theorem S2.apart (h : S2 w2 wr vp vl ps ls) (i : Nat) (h1 : vl.ownBlock = some i) : ¬ vp.ownBlock = some i := fun h2 => by
  obtain ⟨c1, e1⟩ := h.l.blk h1
  obtain ⟨c2, e2⟩ := h.p.blk h2
  exact blk_ne e1 e2 (by decide) rfl
theorem S2.pushP (h : S2 w2 wr vp vl ps ls) {x : PeerD} (o : OwnL PeerE 52 w1 (fun k => vl.ownBlock = some k) w2.heap.size v1 (ps ++ [x])) (k : Only wr w1 (fun k => vp.ownBlock = some k)) (hn : ∀ i, v1.ownBlock = some i → vp.ownBlock = some i ∨ wr.heap.size ≤ i) :
    S2 w2 w1 v1 vl (ps ++ [x]) ls := by
  refine ⟨o, ?_, below_only h.b k (fun i hi => h.p.base_le hi)⟩
  have h1 := h.l.reno (N' := fun k => vp.ownBlock = some k ∨ v1.ownBlock = some k) (fun i hi => hi.elim .inl (hn i))
  exact (h1.only k (fun i hi => h.apart i hi) (fun i _ hi => .inl hi)).reno (fun i hi => .inl (.inr hi))
theorem S2.pushL (h : S2 w2 wr vp vl ps ls) {x : LaneD} (o : OwnL LaneE 59 w1 (fun k => vp.ownBlock = some k) w2.heap.size v1 (ls ++ [x])) (k : Only wr w1 (fun k => vl.ownBlock = some k)) (hn : ∀ i, v1.ownBlock = some i → vl.ownBlock = some i ∨ wr.heap.size ≤ i) :
    S2 w2 w1 vp v1 ps (ls ++ [x]) := by
  refine ⟨?_, o, below_only h.b k (fun i hi => h.l.base_le hi)⟩
  have h1 := h.p.reno (N' := fun k => vl.ownBlock = some k ∨ v1.ownBlock = some k) (fun i hi => hi.elim .inl (hn i))
  exact (h1.only k (fun i hi h2 => h.apart i h2 hi) (fun i _ hi => .inl hi)).reno (fun i hi => .inl (.inr hi))
theorem S2.freshP (h : S2 w2 wr vp vl ps ls) {A B : Option Addr} {a b : Nat} {x : PeerD} (h1 : Bs w1 A a x.key) (h2 : Ps w1 B b x.ps) (n1 : Nw wr A) (n2 : Nw wr B) :
    PeerE.R w1 (fun k => vl.ownBlock = some k ∨ vp.ownBlock = some k) [Value.int .i64 x.link, .slice A x.key.length a, .slice B x.ps.length b] x := by
  have hN : ∀ i, (vl.ownBlock = some i ∨ vp.ownBlock = some i) → i < wr.heap.size := fun i hi => hi.elim (fun e => h.l.lt e) (fun e => h.p.lt e)
  exact ⟨A, a, B, b, rfl, Bs.fresh h1 n1 hN, Ps.fresh h2 n2 hN⟩
theorem S2.freshL (h : S2 w2 wr vp vl ps ls) {A : Option Addr} {a : Nat} {x : LaneD} (h1 : Bs w1 A a x.key) (h2 : LaneB x) (n1 : Nw wr A) :
    LaneE.R w1 (fun k => vp.ownBlock = some k ∨ vl.ownBlock = some k) [Value.slice A x.key.length a, .int .i64 x.side, .int .i64 x.cur, .int .i64 x.next, .int .u64 (x.sc : Int), .int .u64 (x.ceil : Int), .int .i64 x.sec, .int .i64 x.nano] x := by
  have hN : ∀ i, (vp.ownBlock = some i ∨ vl.ownBlock = some i) → i < wr.heap.size := fun i hi => hi.elim (fun e => h.p.lt e) (fun e => h.l.lt e)
  exact ⟨A, a, rfl, Bs.fresh h1 n1 hN, h2⟩
theorem S2.fill (h : S2 w2 wr vp vl ps ls) {w5 wf : World} {g : Nat} (hb : Below wr.heap.size wr w5) (k : Only w5 wf (fun i => i = g)) (hg : wr.heap.size ≤ g) : S2 w2 wf vp vl ps ls := by
  have h1 := h.p.reno (N' := fun k => vl.ownBlock = some k ∨ k = g) (fun i hi => hi.elim .inl (fun e => .inr (by omega)))
  have h2 := h.l.reno (N' := fun k => vp.ownBlock = some k ∨ k = g) (fun i hi => hi.elim .inl (fun e => .inr (by omega)))
  refine ⟨?_, ?_, below_only (below_step h.b hb) k (fun i hi => by have := h.b.size; omega)⟩
  · exact ((h1.below hb).only k (fun i hi e => by have := h.p.lt hi; omega) (fun i _ hi => .inr hi)).reno (fun i hi => .inl (.inl hi))
  · exact ((h2.below hb).only k (fun i hi e => by have := h.l.lt hi; omega) (fun i _ hi => .inr hi)).reno (fun i hi => .inl (.inl hi))
theorem S2.boxP (h : S2 w2 wr vp vl ps ls) {w5 : World} {g : Nat} (hb : Below wr.heap.size wr w5) (hg : wr.heap.size ≤ g) (hx : PBox w5 g 0 none 0 0 none 0 0) {A B : Option Addr} {a b : Nat} {x : PeerD} (h1 : Bs w5 A a x.key) (h2 : Ps w5 B b x.ps) (n1 : Nw wr A) (n2 : Nw wr B) :
    S2 w2 (fill3 w5 g x.link A x.key.length a B x.ps.length b) vp vl ps ls ∧ PBox (fill3 w5 g x.link A x.key.length a B x.ps.length b) g x.link A x.key.length a B x.ps.length b
    ∧ PeerE.R (fill3 w5 g x.link A x.key.length a B x.ps.length b) (fun k => vl.ownBlock = some k ∨ vp.ownBlock = some k) [Value.int .i64 x.link, .slice A x.key.length a, .slice B x.ps.length b] x ∧ (fill3 w5 g x.link A x.key.length a B x.ps.length b).heap.size = w5.heap.size := by
  have hf := hx.fill x.link A x.key.length a B x.ps.length b
  exact ⟨h.fill hb hf.2 hg, hf.1, h.freshP (hx.bs h1 hf.2) (hx.ps h2 hf.2) n1 n2, by simp [fill3]⟩
theorem S2.boxL (h : S2 w2 wr vp vl ps ls) {w5 : World} {g : Nat} (hb : Below wr.heap.size wr w5) (hg : wr.heap.size ≤ g) (hx : w5.heap[g]? = some (.cells (lnC none 0 0 0 0 0 0 0 0 0) 59 (0, 0))) {A : Option Addr} {a : Nat} {x : LaneD} (h1 : Bs w5 A a x.key) (h2 : LaneB x) (n1 : Nw wr A) :
    S2 w2 (fill8 w5 g A x.key.length a x.side x.cur x.next x.sc x.ceil x.sec x.nano) vp vl ps ls ∧ (fill8 w5 g A x.key.length a x.side x.cur x.next x.sc x.ceil x.sec x.nano).heap[g]? = some (.cells (lnC A x.key.length a x.side x.cur x.next x.sc x.ceil x.sec x.nano) 59 (0, 0))
    ∧ LaneE.R (fill8 w5 g A x.key.length a x.side x.cur x.next x.sc x.ceil x.sec x.nano) (fun k => vp.ownBlock = some k ∨ vl.ownBlock = some k) [Value.slice A x.key.length a, .int .i64 x.side, .int .i64 x.cur, .int .i64 x.next, .int .u64 (x.sc : Int), .int .u64 (x.ceil : Int), .int .i64 x.sec, .int .i64 x.nano] x
    ∧ (fill8 w5 g A x.key.length a x.side x.cur x.next x.sc x.ceil x.sec x.nano).heap.size = w5.heap.size := by
  have h0 : RB wr w5 (fun k => k = g) A a x.key g 59 (lnC none 0 0 0 0 0 0 0 0 0) := ⟨hx, lnC_noU8 _ _ _ _ _ _ _ _ _ _, h1, Only.of_below hb _, hg⟩
  have hf := h0.fill8 A x.key.length a x.side x.cur x.next x.sc x.ceil x.sec x.nano
  have ho : Only w5 (fill8 w5 g A x.key.length a x.side x.cur x.next x.sc x.ceil x.sec x.nano) (fun k => k = g) := by
    unfold fill8
    exact ((((((((Only.refl w5 (fun k => k = g)).setCell (p := ⟨g, 0, none⟩) (.inl rfl) _).setCell (p := ⟨g, 1, none⟩) (.inl rfl) _).setCell (p := ⟨g, 2, none⟩) (.inl rfl) _).setCell (p := ⟨g, 3, none⟩) (.inl rfl) _).setCell (p := ⟨g, 4, none⟩) (.inl rfl) _).setCell (p := ⟨g, 5, none⟩) (.inl rfl) _).setCell (p := ⟨g, 6, none⟩) (.inl rfl) _).setCell (p := ⟨g, 7, none⟩) (.inl rfl) _
  exact ⟨h.fill hb ho hg, hf.r, h.freshL hf.bs h2 n1, by simp [fill8]⟩
end
theorem blk_new2 (w : World) (q1 q2 : Obj) : ((w.alloc q1).alloc q2).heap[w.heap.size + 1]? = some q2 := by
  have := blk_new (w.alloc q1) q2
  simpa using this
theorem stepK_some (l : List RowD) (s : T3) (k : List UInt8) : stepK l (some s) k = stepO s k (valOf l k) := rfl
theorem getBoots2 (A B : Option Addr) (c d : Nat) (k v : List UInt8) (w : World) (ha : Bs w A c k) (hb : Bs w B d v) :
    Calls Tryz.prog 32 #[.agg #[.slice A k.length c, .slice B v.length d]] w (Pure w (.tuple #[.int .i64 (bootsGet k v).1, .int .i64 (bootsGet k v).2])) := by
  have h := getBoots_any A B c d k v w ha hb
  rw [takes_rd, readAs_boots] at h
  exact h
set_option maxRecDepth 100000 in
set_option maxHeartbeats 40000000 in
theorem state_any (A : Option Addr) (c : Nat) (l : List RowD) (w : World) (hl : Lst RowE w (fun _ => False) A c l) (hn : l.length ≤ 900) :
    Calls Tryz.prog 6 #[.slice A l.length c] w (RetS w (progState l)) := by
  have HL := Lib.hid hl
  have h1 := hl.le
  have h2 := hl.max
  clear hl
  generalize hr : progState l = res
  have HR := Lib.hid hr
  clear hr
  unfold progState at HR
  have HB0 := Lib.hid (below_alloc (Below.refl w.heap.size w) (.map #[] 0))
  have HM0 : Hid (GMap (w.alloc (.map #[] 0)) w.heap.size []) := Lib.hid ⟨World.ownsMap_made w _ _ _, by simp⟩
  generalize hm : l.length = n at *
  have HN := Lib.hid hm
  clear hm
  have hmk : (Instr.makeMap 62 none).run Tryz.prog w = .ok (.map (some w.heap.size)) (w.alloc (.map #[] 0)) := rfl
  go_enter Tryz.func6, Tryz.ntmps6
  go_wp2_with fail
  go_loopg [21] n (fun gk i wr => ∃ (k : Nat) (rs : List GRow), k ≤ n ∧ gk = n - k ∧ i = .int .i64 (k : Int) ∧ Hid (GMap wr w.heap.size rs) ∧ Hid (GOf w (l.take k) rs) ∧ Below w.heap.size w wr)
  case atStart => exact ⟨0, [], by omega, rfl, rfl, HM0, GOf.nil w, HB0.out⟩
  case round =>
    obtain ⟨k, rs, hk, rfl, rfl, HG, HO, hb⟩ := hrel
    have HW := Lib.hid hb
    clear hb
    by_cases hlt : k < n
    · have i1 : (k : Int) < (n : Int) := by omega
      have i0 : (0 : Int) ≤ (k : Int) := by omega
      obtain ⟨bk, off, A2, a2, B2, b2, rfl, hbk, c0, c1, s1, s2⟩ := HL.out.row k _ (getD_get zR (by rw [HN.out]; exact hlt))
      have HTK : Hid (l.take (k + 1) = l.take k ++ [l.getD k zR]) := Lib.hid (by
        have hk : k < l.length := by rw [HN.out]; exact hlt
        rw [List.take_succ_eq_append_getElem hk]; simp [hk])
      obtain ⟨⟨xk, xv⟩, hx⟩ : ∃ y, l.getD k zR = y := ⟨_, rfl⟩
      rw [hx] at c0 c1 s1 s2 HTK
      dsimp only at c0 c1 s1 s2
      have S1 := Lib.hid s1.1
      have S2 := Lib.hid s2.1
      have y0 : wr.cell? ⟨bk, off + k * 2, none⟩ = some (.slice A2 xk.length a2) := (HW.out.cell (p := ⟨bk, _, none⟩) hbk).trans c0
      have y1 : wr.cell? ⟨bk, off + k * 2 + 1, none⟩ = some (.slice B2 xv.length b2) := (HW.out.cell (p := ⟨bk, _, none⟩) hbk).trans c1
      have HX := Lib.hid hx
      clear c0 c1 s1 s2 hx hbk
      have hrl : rs.length ≤ 1000 := by
        have := HO.out.1
        rw [List.length_take, HN.out] at this
        omega
      have HRL := Lib.hid hrl
      have W1 := Lib.hid (below_alloc (Below.refl wr.heap.size wr) (.cells #[Value.slice A2 xk.length a2, .slice B2 xv.length b2] 64))
      have T := Lib.hid (take_any w.heap.size rs A2 B2 a2 b2 xv.length xk (wr.alloc (.cells #[Value.slice A2 xk.length a2, .slice B2 xv.length b2] 64)) (HG.out.keep W1.out) (S1.out.below (below_step HW.out W1.out)) hrl)
      clear hrl
      go_wp2_with fail
      refine T.out.mono ?_
      rintro e w3 ht
      rcases ht with ⟨hh, rfl, g3, k3⟩ | ⟨hh, rfl, g3, k3⟩
      · have W3 := Lib.hid (below_only (below_step HW.out W1.out) k3 (fun i hi => by omega))
        have HH := Lib.hid hh
        clear g3 k3 hh
        go_wp2_with fail
        have HE : res = ([], [], 0, 114) := by
          rw [← HR.out, if_neg]
          intro hnd
          have hmem := hasG_true.1 HH.out
          rw [HO.out.fst] at hmem
          rw [← List.take_append_drop (k + 1) l, HTK.out, List.map_append, List.map_append] at hnd
          have h3 := (List.nodup_append.1 (List.nodup_append.1 hnd).1).2.2
          exact h3 _ hmem _ (by simp) rfl
        exact bodyPost_ret (v := .tuple #[.slice none 0 0, .slice none 0 0, .int .i64 0, .int .i64 114]) (by simp [results, Tryz.results6, go_sem]) rfl ⟨none, 0, none, 0, by rw [HE]; rfl, by rw [HE]; exact Lst.nil _ _, by rw [HE]; exact Lst.nil _ _, W3.out⟩
      · have W3 := Lib.hid (below_only (below_step HW.out W1.out) k3 (fun i hi => by omega))
        have G3 := Lib.hid g3
        clear g3 k3 hh
        go_wp2_with fail
        go_roundg (n - (k + 1))
        case measure => omega
        case rel => exact ⟨k + 1, rs ++ [(xk, .slice B2 xv.length b2)], by omega, rfl, by go_num, G3, by rw [HTK.out]; exact HO.out.snoc (x := (xk, xv)) S2.out, W3.out⟩
    · obtain rfl : k = n := by omega
      have i1 : ¬ (k : Int) < (k : Int) := by omega
      have htk : l.take k = l := List.take_of_length_le (by rw [HN.out]; omega)
      have HO2 : Hid (GOf w l rs) := by rw [← htk]; exact HO
      clear htk HO
      have hrl : rs.length ≤ 1000 := by
        have := HO2.out.1
        rw [HN.out] at this
        omega
      have KY := Lib.hid (keys_any w.heap.size rs wr HG.out hrl)
      have HKS : Hid (keysOf rs = keysL l) := by rw [Hid]; unfold keysOf keysL; rw [HO2.out.fst]
      rw [HKS.out] at KY
      have HKM : Hid (∀ x, x ∈ keysL l → x ∈ l.map Prod.fst) := Lib.hid (fun x hx => (List.mergeSort_perm _ _).mem_iff.1 hx)
      have HKL : Hid ((keysL l).length = k) := Lib.hid (by unfold keysL; simp [HN.out])
      clear hrl HKS
      unfold foldK at HR
      have HFS := Lib.hid (foldK_step l (keysL l) (some ([], [], 0)))
      have HFX := Lib.hid (foldK_stop l (keysL l) (some ([], [], 0)))
      have hnd : (l.map Prod.fst).Nodup := by rw [← HO2.out.fst]; exact HG.out.2
      rw [if_pos hnd] at HR
      clear hnd
      generalize keysL l = ks at *
      go_wp2_with fail
      refine KY.out.mono ?_
      rintro e w2 ⟨KA, kc, rfl, hkl, hb2⟩
      have HKK := Lib.hid hkl
      have W2 := Lib.hid (below_step HW.out hb2)
      have G2 := Lib.hid (HG.out.keep hb2)
      have hkc := hkl.le
      have hkc2 := hkl.max
      have HS2 := Lib.hid (S2.start w2)
      clear hkl hb2 KY HG HM0 HB0
      generalize hm : ks.length = m at *
      have HM := Lib.hid hm
      clear hm
      go_wp2_with fail
      go_loopg [33, 9, 10, 11] m (fun gk i s9 s10 s11 wr => ∃ (j : Nat) (ps : List PeerD) (ls : List LaneD) (bo : Int), j ≤ m ∧ gk = m - j ∧ i = .int .i64 (j : Int) ∧ s11 = .int .i64 bo ∧ Hid ((ks.take j).foldl (stepK l) (some ([], [], 0)) = some (ps, ls, bo)) ∧ Hid (ps.length ≤ j ∧ ls.length ≤ j) ∧ Hid (S2 w2 wr s9 s10 ps ls))
      case atStart => exact ⟨0, [], [], 0, by omega, rfl, rfl, rfl, rfl, ⟨by simp, by simp⟩, HS2.out⟩
      case round =>
        clear HS2
        obtain ⟨j, ps, ls, bo, hj, rfl, rfl, rfl, HF, HLn, HS⟩ := hrel
        obtain ⟨A1, a1, rfl⟩ := HS.out.p.slice
        obtain ⟨B1, b1, rfl⟩ := HS.out.l.slice
        by_cases hjt : j < m
        · have j1 : (j : Int) < (m : Int) := by omega
          have j0 : (0 : Int) ≤ (j : Int) := by omega
          have HST := Lib.hid (HFS.out j hjt)
          rw [HF.out] at HST
          have hkk : ks[j]? = some (ks.getD j []) := getD_get [] (by rw [HM.out]; exact hjt)
          obtain ⟨bk, off, raw, rfl, hbk, -, hc, hraw⟩ := HKK.out.at_ j _ hkk
          have hmem := HKM.out _ (List.mem_of_getElem? hkk)
          obtain ⟨kk, hx⟩ : ∃ y, ks.getD j [] = y := ⟨_, rfl⟩
          rw [hx] at hmem hraw HST
          cases hraw
          have y0 : wr.cell? ⟨bk, off + j, none⟩ = some (.string ⟨kk.toArray⟩) := by
            have := (HS.out.b.cell (p := ⟨bk, off + j * 1 + 0, none⟩) hbk).trans (hc 0 (by decide))
            simpa [encStr] using this
          obtain ⟨VB, vb, hlook, hvb⟩ := find_pair kk l rs HO2.out hmem
          have hkl : kk.length ≤ 140737488355328 := by
            obtain ⟨x, hxm, rfl⟩ := List.mem_map.1 hmem
            obtain ⟨i, hi, rfl⟩ := List.mem_iff_getElem.1 hxm
            obtain ⟨_, _, _, _, _, _, _, _, _, _, s1, _⟩ := HL.out.row i _ (List.getElem?_eq_getElem hi)
            exact s1.1.max
          have hkm : kk.length ≤ maxLen := by simp only [maxLen]; omega
          have HKM2 := Lib.hid hkm
          have W3 := Lib.hid (below_step W2.out HS.out.b)
          obtain ⟨cap, w3, hcv, hs3, hb3⟩ := bytes_of wr kk hkl
          have bw3 := Lib.hid hb3
          rw [stepK_some] at HST
          generalize valOf l kk = vv at *
          have S3 := Lib.hid hs3
          have HS3 := Lib.hid (HS.out.step hb3)
          have G3 := Lib.hid ((G2.out.keep HS.out.b).keep hb3)
          have V3 := Lib.hid (hvb.below (below_step W3.out hb3))
          have HLK := Lib.hid hlook
          clear hs3 hb3 hlook hvb hkl hkm hmem hx hkk hc
          rcases hkc : kk with _ | ⟨c0, t⟩
          · have hnil : (kk == []) = true := by simp [hkc]
            have HE : Hid (res = ([], [], 0, 114)) := by
              rw [Hid, ← HR.out, HFX.out (j + 1) (by rw [HST.out, hkc]; rfl)]
              rfl
            clear hkc
            go_wp2_with (first
              | (at_lookup; refine look_v rfl _ _ rfl rfl G3.out kk rfl HKM2.out ?_; rw [HLK.out])
              | go_in)
            exact bodyPost_ret (v := .tuple #[.slice none 0 0, .slice none 0 0, .int .i64 0, .int .i64 114]) (by simp [results, Tryz.results6, go_sem]) rfl ⟨none, 0, none, 0, by rw [HE.out]; rfl, by rw [HE.out]; exact Lst.nil _ _, by rw [HE.out]; exact Lst.nil _ _, (below_step W3.out (below_step bw3.out (below_alloc (Below.refl _ _) _)))⟩
          · have hnil : (kk == []) = false := by simp [hkc]
            have hix : ∀ W : World, (Instr.index 9 (.string ⟨kk.toArray⟩) (.int .i64 0)).run Tryz.prog W = .ok (.int .u8 (c0.toNat : Int)) W := fun W => by
              rw [run_index_string W _ _ _ _ u_str, dif_pos (by rw [hkc]; simp [ByteArray.size])]
              simp only [hkc]
              rfl
            have HKC := Lib.hid hkc
            clear hkc
            rw [HKC.out] at HST
            unfold stepO at HST
            dsimp only at HST
            rw [← HKC.out] at HST
            have HR3 := Lib.hid (below_alloc (Below.refl w3.heap.size w3) (.cells #[Value.slice (some ⟨wr.heap.size, 0, none⟩) kk.length cap, .slice VB vv.length vb] 64))
            have HB3 := Lib.hid (blk_new w3 (.cells #[Value.slice (some ⟨wr.heap.size, 0, none⟩) kk.length cap, .slice VB vv.length vb] 64))
            by_cases h80 : c0 = 80
            · subst h80
              rw [if_pos rfl] at HST
              have HX := Lib.hid (below_alloc HR3.out (.cells #[Value.int .i64 0, .slice none 0 0, .slice none 0 0] 52))
              have HSZ : Hid (((w3.alloc (.cells #[Value.slice (some ⟨wr.heap.size, 0, none⟩) kk.length cap, .slice VB vv.length vb] 64)).alloc (.cells #[Value.int .i64 0, .slice none 0 0, .slice none 0 0] 52)).heap.size = w3.heap.size + 2) := by rw [Hid]; simp
              have HZ := Lib.hid (blk_new2 w3 (.cells #[Value.slice (some ⟨wr.heap.size, 0, none⟩) kk.length cap, .slice VB vv.length vb] 64) (.cells #[Value.int .i64 0, .slice none 0 0, .slice none 0 0] 52))
              have P := Lib.hid (getPeer_any _ VB cap vb kk vv _ (S3.out.below HX.out) (V3.out.below HX.out))
              generalize peerGet kk vv = pg at *
              obtain ⟨pd, pc⟩ := pg
              dsimp only at HST
              go_wp2_with (first
                | (at_lookup; refine look_v rfl _ _ rfl rfl G3.out kk rfl HKM2.out ?_; rw [HLK.out]))
              refine P.out.mono ?_
              rintro e w5 ⟨A5, a5, B5, b5, rfl, s5, p5, hb5, n5, m5⟩
              unfold peerV
              dsimp only at s5 p5 n5 m5 ⊢
              have HB5 := Lib.hid (below_step HX.out hb5)
              have hx0 : PBox w5 (w3.heap.size + 1) 0 none 0 0 none 0 0 := ⟨(hb5.block _ (by rw [HSZ.out]; omega)).trans HZ.out⟩
              have HF5 := Lib.hid (HS3.out.boxP HB5.out (g := w3.heap.size + 1) (by omega) hx0 s5 p5 (n5.back (by rw [HSZ.out]; omega)) (m5.back (by rw [HSZ.out]; omega)))
              obtain ⟨r0, r1, r2, z0, z1, z2⟩ := hx0.cells
              have hf := HF5.out.2.1.cells
              unfold fill3 at hf HF5
              obtain ⟨f0, f1, f2, -, -, -⟩ := hf
              have BX5 := Lib.hid ((hb5.block _ (by rw [HSZ.out]; omega)).trans (blk_alloc HB3.out (.cells #[Value.int .i64 0, .slice none 0 0, .slice none 0 0] 52)))
              have S6 := Lib.hid (HF5.out.1.step (below_alloc (Below.refl _ _) (.cells #[Value.int .i64 pd.link, .slice A5 pd.key.length a5, .slice B5 pd.ps.length b5] 52)))
              have R6 := Lib.hid (PeerE.below HF5.out.2.2.1 (below_alloc (Below.refl _ _) (.cells #[Value.int .i64 pd.link, .slice A5 pd.key.length a5, .slice B5 pd.ps.length b5] 52)))
              have x6 := blk_new (((w5.setCell ⟨w3.heap.size + 1, 0, none⟩ (.int .i64 pd.link)).setCell ⟨w3.heap.size + 1, 1, none⟩ (.slice A5 pd.key.length a5)).setCell ⟨w3.heap.size + 1, 2, none⟩ (.slice B5 pd.ps.length b5)) (.cells #[Value.int .i64 pd.link, .slice A5 pd.key.length a5, .slice B5 pd.ps.length b5] 52)
              rw [HF5.out.2.2.2] at x6
              have X6 := Lib.hid x6
              clear x6
              clear hb5 hx0 s5 p5 n5 m5
              by_cases hp : pc = 0
              · subst hp
                rw [if_pos rfl] at HST
                go_wp2_with (at_builtin; refine push (E := PeerE) 52 23 _ 56 rfl (.tmp 55) (.tmp 57) rfl Tryz.underlying23 info_peer rfl (by decide) (by decide) (by decide) (.slice A1 ps.length a1) ps pd [Value.int .i64 pd.link, .slice A5 pd.key.length a5, .slice B5 pd.ps.length b5] w5.heap.size 1 rfl rfl S6.out.p X6.out R6.out S6.out.b.size (by have := HLn.out.1; have := HKL.out; omega) ?_ (fun _ h => S6.out.l.lt h); intro A6 c6 w6 o6 k6 n6; have S7 := Lib.hid (S6.out.pushP o6 k6 n6); clear o6 k6 n6)
                go_roundg (m - (j + 1))
                case measure => omega
                case rel => exact ⟨j + 1, ps ++ [pd], ls, bo, by omega, rfl, by go_num, rfl, HST, ⟨by have := HLn.out.1; simp; omega, by have := HLn.out.2; omega⟩, by simpa using S7⟩
              · have hp2 : (pc != 0) = true := by simpa using hp
                rw [if_neg hp] at HST
                have HE : Hid (res = ([], [], 0, 114)) := by
                  rw [Hid, ← HR.out, HFX.out (j + 1) HST.out]
                  rfl
                go_wp2_with (at_builtin; refine push (E := PeerE) 52 23 _ 56 rfl (.tmp 55) (.tmp 57) rfl Tryz.underlying23 info_peer rfl (by decide) (by decide) (by decide) (.slice A1 ps.length a1) ps pd [Value.int .i64 pd.link, .slice A5 pd.key.length a5, .slice B5 pd.ps.length b5] w5.heap.size 1 rfl rfl S6.out.p X6.out R6.out S6.out.b.size (by have := HLn.out.1; have := HKL.out; omega) ?_ (fun _ h => S6.out.l.lt h); intro A6 c6 w6 o6 k6 n6; have S7 := Lib.hid (S6.out.pushP o6 k6 n6); clear o6 k6 n6)
                exact bodyPost_ret (v := .tuple #[.slice none 0 0, .slice none 0 0, .int .i64 0, .int .i64 114]) (by simp [results, Tryz.results6, go_sem]) rfl ⟨none, 0, none, 0, by rw [HE.out]; rfl, by rw [HE.out]; exact Lst.nil _ _, by rw [HE.out]; exact Lst.nil _ _, below_step W2.out S7.out.b⟩
            · rw [if_neg h80] at HST
              have e80 : ¬ (c0.toNat : Int) = 80 := fun e => h80 (UInt8.toNat_inj.1 (by simpa using Int.ofNat_inj.1 e))
              have f80 : ((c0.toNat : Int) == 80) = false := by simpa using e80
              by_cases h76 : c0 = 76
              · subst h76
                rw [if_pos rfl] at HST
                have HX := Lib.hid (below_alloc HR3.out (.cells #[Value.slice none 0 0, .int .i64 0, .int .i64 0, .int .i64 0, .int .u64 0, .int .u64 0, .int .i64 0, .int .i64 0] 59))
                have HSZ : Hid (((w3.alloc (.cells #[Value.slice (some ⟨wr.heap.size, 0, none⟩) kk.length cap, .slice VB vv.length vb] 64)).alloc (.cells #[Value.slice none 0 0, .int .i64 0, .int .i64 0, .int .i64 0, .int .u64 0, .int .u64 0, .int .i64 0, .int .i64 0] 59)).heap.size = w3.heap.size + 2) := by rw [Hid]; simp
                have HZ := Lib.hid (blk_new2 w3 (.cells #[Value.slice (some ⟨wr.heap.size, 0, none⟩) kk.length cap, .slice VB vv.length vb] 64) (.cells #[Value.slice none 0 0, .int .i64 0, .int .i64 0, .int .i64 0, .int .u64 0, .int .u64 0, .int .i64 0, .int .i64 0] 59))
                have P := Lib.hid (getLane_any _ VB cap vb kk vv _ (S3.out.below HX.out) (V3.out.below HX.out))
                have LB := Lib.hid (laneGet_b kk vv)
                generalize laneGet kk vv = pg at *
                obtain ⟨ld, pc⟩ := pg
                dsimp only at HST LB
                go_wp2_with (first
                  | (at_lookup; refine look_v rfl _ _ rfl rfl G3.out kk rfl HKM2.out ?_; rw [HLK.out]))
                refine P.out.mono ?_
                rintro e w5 ⟨A5, a5, rfl, s5, hb5, n5⟩
                unfold laneV
                dsimp only at s5 n5 ⊢
                have HB5 := Lib.hid (below_step HX.out hb5)
                have hx0 : w5.heap[w3.heap.size + 1]? = some (.cells (lnC none 0 0 0 0 0 0 0 0 0) 59 (0, 0)) := (hb5.block _ (by rw [HSZ.out]; omega)).trans HZ.out
                have HF5 := Lib.hid (HS3.out.boxL HB5.out (g := w3.heap.size + 1) (by omega) hx0 s5 LB.out (n5.back (by rw [HSZ.out]; omega)))
                obtain ⟨r0, r1, r2, r3, r4, r5, r6, r7, z0, z1, z2, z3, z4, z5, z6, z7⟩ := zero_cells hx0
                have JJ := Lib.hid (lane_cells HF5.out.2.1)
                unfold fill8 at JJ HF5
                have S6 := Lib.hid (HF5.out.1.step (below_alloc (Below.refl _ _) (.cells #[Value.slice A5 ld.key.length a5, .int .i64 ld.side, .int .i64 ld.cur, .int .i64 ld.next, .int .u64 (ld.sc : Int), .int .u64 (ld.ceil : Int), .int .i64 ld.sec, .int .i64 ld.nano] 59)))
                have R6 := Lib.hid (LaneE.below HF5.out.2.2.1 (below_alloc (Below.refl _ _) (.cells #[Value.slice A5 ld.key.length a5, .int .i64 ld.side, .int .i64 ld.cur, .int .i64 ld.next, .int .u64 (ld.sc : Int), .int .u64 (ld.ceil : Int), .int .i64 ld.sec, .int .i64 ld.nano] 59)))
                have x6 := blk_new ((((((((w5.setCell ⟨w3.heap.size + 1, 0, none⟩ (.slice A5 ld.key.length a5)).setCell ⟨w3.heap.size + 1, 1, none⟩ (.int .i64 ld.side)).setCell ⟨w3.heap.size + 1, 2, none⟩ (.int .i64 ld.cur)).setCell ⟨w3.heap.size + 1, 3, none⟩ (.int .i64 ld.next)).setCell ⟨w3.heap.size + 1, 4, none⟩ (.int .u64 (ld.sc : Int))).setCell ⟨w3.heap.size + 1, 5, none⟩ (.int .u64 (ld.ceil : Int))).setCell ⟨w3.heap.size + 1, 6, none⟩ (.int .i64 ld.sec)).setCell ⟨w3.heap.size + 1, 7, none⟩ (.int .i64 ld.nano)) (.cells #[Value.slice A5 ld.key.length a5, .int .i64 ld.side, .int .i64 ld.cur, .int .i64 ld.next, .int .u64 (ld.sc : Int), .int .u64 (ld.ceil : Int), .int .i64 ld.sec, .int .i64 ld.nano] 59)
                rw [HF5.out.2.2.2] at x6
                have X6 := Lib.hid x6
                clear x6
                clear hb5 hx0 s5 n5
                by_cases hp : pc = 0
                · subst hp
                  rw [if_pos rfl] at HST
                  go_wp2_with (at_builtin; refine push (E := LaneE) 59 24 _ 80 rfl (.tmp 68) (.tmp 70) rfl Tryz.underlying24 info_lane rfl (by decide) (by decide) (by decide) (.slice B1 ls.length b1) ls ld [Value.slice A5 ld.key.length a5, .int .i64 ld.side, .int .i64 ld.cur, .int .i64 ld.next, .int .u64 (ld.sc : Int), .int .u64 (ld.ceil : Int), .int .i64 ld.sec, .int .i64 ld.nano] w5.heap.size 1 rfl rfl S6.out.l X6.out R6.out S6.out.b.size (by have := HLn.out.2; have := HKL.out; omega) ?_ (fun _ h => S6.out.p.lt h); intro A6 c6 w6 o6 k6 n6; have S7 := Lib.hid (S6.out.pushL o6 k6 n6); clear o6 k6 n6)
                  go_roundg (m - (j + 1))
                  case measure => omega
                  case rel => exact ⟨j + 1, ps, ls ++ [ld], bo, by omega, rfl, by go_num, rfl, HST, ⟨by have := HLn.out.1; omega, by have := HLn.out.2; simp; omega⟩, by simpa using S7⟩
                · have hp2 : (pc != 0) = true := by simpa using hp
                  rw [if_neg hp] at HST
                  have HE : Hid (res = ([], [], 0, 114)) := by
                    rw [Hid, ← HR.out, HFX.out (j + 1) HST.out]
                    rfl
                  go_wp2_with (at_builtin; refine push (E := LaneE) 59 24 _ 80 rfl (.tmp 68) (.tmp 70) rfl Tryz.underlying24 info_lane rfl (by decide) (by decide) (by decide) (.slice B1 ls.length b1) ls ld [Value.slice A5 ld.key.length a5, .int .i64 ld.side, .int .i64 ld.cur, .int .i64 ld.next, .int .u64 (ld.sc : Int), .int .u64 (ld.ceil : Int), .int .i64 ld.sec, .int .i64 ld.nano] w5.heap.size 1 rfl rfl S6.out.l X6.out R6.out S6.out.b.size (by have := HLn.out.2; have := HKL.out; omega) ?_ (fun _ h => S6.out.p.lt h); intro A6 c6 w6 o6 k6 n6; have S7 := Lib.hid (S6.out.pushL o6 k6 n6); clear o6 k6 n6)
                  exact bodyPost_ret (v := .tuple #[.slice none 0 0, .slice none 0 0, .int .i64 0, .int .i64 114]) (by simp [results, Tryz.results6, go_sem]) rfl ⟨none, 0, none, 0, by rw [HE.out]; rfl, by rw [HE.out]; exact Lst.nil _ _, by rw [HE.out]; exact Lst.nil _ _, below_step W2.out S7.out.b⟩
              · rw [if_neg h76] at HST
                have e76 : ¬ (c0.toNat : Int) = 76 := fun e => h76 (UInt8.toNat_inj.1 (by simpa using Int.ofNat_inj.1 e))
                have f76 : ((c0.toNat : Int) == 76) = false := by simpa using e76
                by_cases h66 : c0 = 66
                · subst h66
                  rw [if_pos rfl] at HST
                  have P := Lib.hid (getBoots2 _ VB cap vb kk vv _ (S3.out.below HR3.out) (V3.out.below HR3.out))
                  generalize bootsGet kk vv = pg at *
                  obtain ⟨bn, pc⟩ := pg
                  dsimp only at HST P
                  go_wp2_with (first
                    | (at_lookup; refine look_v rfl _ _ rfl rfl G3.out kk rfl HKM2.out ?_; rw [HLK.out]))
                  refine P.out.mono ?_
                  rintro e w5 ⟨rfl, hb5⟩
                  have S7 := Lib.hid (HS3.out.step (below_step HR3.out hb5))
                  clear hb5
                  by_cases hp : pc = 0
                  · subst hp
                    rw [if_pos rfl] at HST
                    go_wp2_with fail
                    go_roundg (m - (j + 1))
                    case measure => omega
                    case rel => exact ⟨j + 1, ps, ls, bn, by omega, rfl, by go_num, rfl, HST, ⟨by have := HLn.out.1; omega, by have := HLn.out.2; omega⟩, S7⟩
                  · have hp2 : (pc != 0) = true := by simpa using hp
                    rw [if_neg hp] at HST
                    have HE : Hid (res = ([], [], 0, 114)) := by
                      rw [Hid, ← HR.out, HFX.out (j + 1) HST.out]
                      rfl
                    go_wp2_with fail
                    exact bodyPost_ret (v := .tuple #[.slice none 0 0, .slice none 0 0, .int .i64 0, .int .i64 114]) (by simp [results, Tryz.results6, go_sem]) rfl ⟨none, 0, none, 0, by rw [HE.out]; rfl, by rw [HE.out]; exact Lst.nil _ _, by rw [HE.out]; exact Lst.nil _ _, below_step W2.out S7.out.b⟩
                · rw [if_neg h66] at HST
                  have e66 : ¬ (c0.toNat : Int) = 66 := fun e => h66 (UInt8.toNat_inj.1 (by simpa using Int.ofNat_inj.1 e))
                  have f66 : ((c0.toNat : Int) == 66) = false := by simpa using e66
                  have HE : Hid (res = ([], [], 0, 114)) := by
                    rw [Hid, ← HR.out, HFX.out (j + 1) HST.out]
                    rfl
                  go_wp2_with (first
                    | (at_lookup; refine look_v rfl _ _ rfl rfl G3.out kk rfl HKM2.out ?_; rw [HLK.out]))
                  exact bodyPost_ret (v := .tuple #[.slice none 0 0, .slice none 0 0, .int .i64 0, .int .i64 114]) (by simp [results, Tryz.results6, go_sem]) rfl ⟨none, 0, none, 0, by rw [HE.out]; rfl, by rw [HE.out]; exact Lst.nil _ _, by rw [HE.out]; exact Lst.nil _ _, (below_step W3.out (below_step bw3.out (below_alloc (Below.refl _ _) _)))⟩
        · obtain rfl : j = m := by omega
          have j1 : ¬ (j : Int) < (j : Int) := by omega
          have htk : ks.take j = ks := List.take_of_length_le (by rw [HM.out]; omega)
          have HF2 := HF.out
          rw [htk] at HF2
          have HR2 := HR.out
          rw [HF2] at HR2
          unfold ansK at HR2
          dsimp only at HR2
          obtain ⟨A7, a7, e7, l7⟩ := HS.out.p.lst (fun i h h2 => HS.out.apart i h2 h)
          obtain ⟨B7, b7, e8, l8⟩ := HS.out.l.lst (fun i h h2 => HS.out.apart i h h2)
          cases e7
          cases e8
          have V := Lib.hid (sound_any A1 B1 a1 b1 ps ls wr l7.free l8.free)
          have P7 := Lib.hid l7.free
          have Q7 := Lib.hid l8.free
          have W7 := Lib.hid (below_step W2.out HS.out.b)
          generalize wholeB ps ls = wb at *
          have HRR := Lib.hid HR2
          clear htk HF2 HR2 l7 l8
          cases wb
          · have HE : Hid (res = ([], [], 0, 114)) := by rw [Hid, ← HRR.out]; rfl
            go_wp2_with fail
            refine V.out.mono ?_
            rintro e w5 ⟨rfl, hb5⟩
            have W8 := Lib.hid (below_step W7.out hb5)
            clear hb5
            go_wp2_with fail
            exact bodyPost_ret (v := .tuple #[.slice none 0 0, .slice none 0 0, .int .i64 0, .int .i64 114]) (by simp [results, Tryz.results6, go_sem]) rfl ⟨none, 0, none, 0, by rw [HE.out]; rfl, by rw [HE.out]; exact Lst.nil _ _, by rw [HE.out]; exact Lst.nil _ _, W8.out⟩
          · have HE : Hid (res = (ps, ls, bo, 0)) := by rw [Hid, ← HRR.out]; rfl
            go_wp2_with fail
            refine V.out.mono ?_
            rintro e w5 ⟨rfl, hb5⟩
            have W8 := Lib.hid (below_step W7.out hb5)
            have P8 := Lib.hid (P7.out.below hb5)
            have Q8 := Lib.hid (Q7.out.below hb5)
            clear hb5
            go_wp2_with fail
            exact bodyPost_ret (v := .tuple #[.slice A1 ps.length a1, .slice B1 ls.length b1, .int .i64 bo, .int .i64 0]) (by simp [results, Tryz.results6, go_sem]) rfl ⟨A1, a1, B1, b1, by rw [HE.out], by rw [HE.out]; exact P8.out, by rw [HE.out]; exact Q8.out, W8.out⟩
end Go.Proofs.YtgbjhlkjceonpaaGreat.Lst
/- The program's State answers what the document's State answers. -/
namespace Go.Proofs.YtgbjhlkjceonpaaGreat.Lst
open Go.RowKit Go.Proofs.YtgbjhlkjceonpaaGreat.K Go.Proofs.YtgbjhlkjceonpaaGreat.Help Go.Proofs.YtgbjhlkjceonpaaGreat.Pfx Go.Proofs.YtgbjhlkjceonpaaGreat.Peer
set_option linter.unusedVariables false

/-! the three kinds -/
noncomputable def gP (r : RowD) : Option PeerD := if (peerGet r.1 r.2).2 = 0 then some (peerGet r.1 r.2).1 else none
noncomputable def gL (r : RowD) : Option LaneD := if (laneGet r.1 r.2).2 = 0 then some (laneGet r.1 r.2).1 else none
noncomputable def gB (r : RowD) : Option Int := if (bootsGet r.1 r.2).2 = 0 then some (bootsGet r.1 r.2).1 else none
theorem peerGet_key {k v : List UInt8} (h : (peerGet k v).2 = 0) : k = 80 :: be 4 (peerGet k v).1.link.toNat ∧ 1 ≤ (peerGet k v).1.link ∧ (peerGet k v).1.link ≤ 4294967295 := by
  unfold peerGet at h ⊢
  split at h
  · rename_i hc
    rw [if_pos hc]
    by_cases ho : peerOk (peerRd k v)
    · rw [putPeer_ok ho] at hc
      exact ⟨hc.2.1.symm, ho.1.1, ho.1.2.1⟩
    · rw [putPeer_bad ho] at hc
      cases hc.1
  · cases h
theorem laneGet_key {k v : List UInt8} (h : (laneGet k v).2 = 0) : k = 76 :: (laneGet k v).1.key := by
  unfold laneGet at h ⊢
  split at h
  · rename_i hc
    rw [if_pos hc]
    by_cases ho : laneOk (laneRd k v)
    · rw [putLane_yes ho] at hc
      exact hc.2.1.symm
    · rw [putLane_no ho] at hc
      cases hc.1
  · cases h
theorem bootsGet_key {k v : List UInt8} (h : (bootsGet k v).2 = 0) : k = [66] := by
  unfold bootsGet at h
  split at h
  · rename_i hc
    unfold putBoots at hc
    split at hc
    · cases hc.1
    · exact hc.2.1.symm
  · cases h
theorem gP_key {r : RowD} {x : PeerD} (h : gP r = some x) : r.1 = 80 :: be 4 x.link.toNat ∧ 1 ≤ x.link ∧ x.link ≤ 4294967295 := by
  unfold gP at h
  split at h
  · rename_i hc
    injection h with h
    subst h
    exact peerGet_key hc
  · cases h
theorem gL_key {r : RowD} {x : LaneD} (h : gL r = some x) : r.1 = 76 :: x.key := by
  unfold gL at h
  split at h
  · rename_i hc
    injection h with h
    subst h
    exact laneGet_key hc
  · cases h
theorem gB_key {r : RowD} {x : Int} (h : gB r = some x) : r.1 = [66] := by
  unfold gB at h
  split at h
  · rename_i hc
    exact bootsGet_key hc
  · cases h
theorem gP_only {r : RowD} {x : PeerD} (h : gP r = some x) : gL r = none ∧ gB r = none := by
  have hk := (gP_key h).1
  constructor
  · cases e : gL r with
    | none => rfl
    | some y => rw [gL_key e] at hk; injection hk with hk; cases hk
  · cases e : gB r with
    | none => rfl
    | some y => rw [gB_key e] at hk; injection hk with hk; cases hk
theorem gL_only {r : RowD} {x : LaneD} (h : gL r = some x) : gB r = none := by
  have hk := gL_key h
  cases e : gB r with
  | none => rfl
  | some y => rw [gB_key e] at hk; injection hk with hk; cases hk
noncomputable def okR (r : RowD) : Bool := (gP r).isSome || (gL r).isSome || (gB r).isSome
/-- the document's fold -/
theorem fold_ref : ∀ (l : List RowD) (s : StD), l.foldl stepS s = ((l.filterMap gP).foldl (layG ltP) s.1, (l.filterMap gL).foldl (layG ltL) s.2.1, (l.filterMap gB).foldl (fun _ v => v) s.2.2.1, s.2.2.2 && l.all okR)
  | [], s => by simp
  | r :: t, s => by
    rw [List.foldl_cons, fold_ref t]
    cases hp : gP r with
    | some x =>
      have hs : stepS s r = (layG ltP s.1 x, s.2.1, s.2.2.1, s.2.2.2) := by
        unfold gP at hp
        split at hp
        · rename_i hc; injection hp with hp; subst hp; unfold stepS; rw [if_pos hc]
        · cases hp
      rw [hs]
      simp [hp, gP_only hp, okR]
    | none =>
      have hp0 : ¬ (peerGet r.1 r.2).2 = 0 := by intro hc; unfold gP at hp; rw [if_pos hc] at hp; cases hp
      cases hq : gL r with
      | some x =>
        have hs : stepS s r = (s.1, layG ltL s.2.1 x, s.2.2.1, s.2.2.2) := by
          unfold gL at hq
          split at hq
          · rename_i hc; injection hq with hq; subst hq; unfold stepS; rw [if_neg hp0, if_pos hc]
          · cases hq
        rw [hs]
        simp [hp, hq, gL_only hq, okR]
      | none =>
        have hq0 : ¬ (laneGet r.1 r.2).2 = 0 := by intro hc; unfold gL at hq; rw [if_pos hc] at hq; cases hq
        cases hb : gB r with
        | some x =>
          have hs : stepS s r = (s.1, s.2.1, x, s.2.2.2) := by
            unfold gB at hb
            split at hb
            · rename_i hc; injection hb with hb; subst hb; unfold stepS; rw [if_neg hp0, if_neg hq0, if_pos hc]
            · cases hb
          rw [hs]
          simp [hp, hq, hb, okR]
        | none =>
          have hb0 : ¬ (bootsGet r.1 r.2).2 = 0 := by intro hc; unfold gB at hb; rw [if_pos hc] at hb; cases hb
          have hs : stepS s r = (s.1, s.2.1, s.2.2.1, false) := by unfold stepS; rw [if_neg hp0, if_neg hq0, if_neg hb0]
          rw [hs]
          simp [hp, hq, hb, okR]
theorem gP_head {c : UInt8} {t v : List UInt8} (hc : c ≠ 80) : gP (c :: t, v) = none := by
  cases e : gP (c :: t, v) with
  | none => rfl
  | some x =>
    have h := (gP_key e).1
    have h2 : c = 80 := (List.cons.inj h).1
    exact absurd h2 hc
theorem gL_head {c : UInt8} {t v : List UInt8} (hc : c ≠ 76) : gL (c :: t, v) = none := by
  cases e : gL (c :: t, v) with
  | none => rfl
  | some x =>
    have h := gL_key e
    have h2 : c = 76 := (List.cons.inj h).1
    exact absurd h2 hc
theorem gB_head {c : UInt8} {t v : List UInt8} (hc : c ≠ 66) : gB (c :: t, v) = none := by
  cases e : gB (c :: t, v) with
  | none => rfl
  | some x =>
    have h := gB_key e
    have h2 : c = 66 := (List.cons.inj h).1
    exact absurd h2 hc
theorem g_nil (v : List UInt8) : gP ([], v) = none ∧ gL ([], v) = none ∧ gB ([], v) = none := by
  refine ⟨?_, ?_, ?_⟩
  · cases e : gP ([], v) with
    | none => rfl
    | some x => have h := (gP_key e).1; exact absurd h (by simp)
  · cases e : gL ([], v) with
    | none => rfl
    | some x => have h := gL_key e; exact absurd h (by simp)
  · cases e : gB ([], v) with
    | none => rfl
    | some x => have h := gB_key e; exact absurd h (by simp)
noncomputable def pick (s : T3) (a : Option PeerD) (b : Option LaneD) (c : Option Int) : Option T3 := match a with
    | some x => some (s.1 ++ [x], s.2.1, s.2.2)
    | none => match b with
      | some x => some (s.1, s.2.1 ++ [x], s.2.2)
      | none => match c with
        | some x => some (s.1, s.2.1, x)
        | none => none
theorem stepO_nil (s : T3) (v : List UInt8) : stepO s [] v = none := rfl
theorem stepO_cons (s : T3) (c : UInt8) (t v : List UInt8) : stepO s (c :: t) v = if c = 80 then (if (peerGet (c :: t) v).2 = 0 then some (s.1 ++ [(peerGet (c :: t) v).1], s.2.1, s.2.2) else none)
    else if c = 76 then (if (laneGet (c :: t) v).2 = 0 then some (s.1, s.2.1 ++ [(laneGet (c :: t) v).1], s.2.2) else none)
    else if c = 66 then (if (bootsGet (c :: t) v).2 = 0 then some (s.1, s.2.1, (bootsGet (c :: t) v).1) else none)
    else none := by
  rfl
/-- the program's step -/
theorem stepO_eq (s : T3) (r : RowD) : stepO s r.1 r.2 = pick s (gP r) (gL r) (gB r) := by
  obtain ⟨k, v⟩ := r
  rcases k with _ | ⟨c, t⟩
  · obtain ⟨h1, h2, h3⟩ := g_nil v
    rw [h1, h2, h3]
    exact stepO_nil s v
  · show stepO s (c :: t) v = _
    rw [stepO_cons]
    by_cases h80 : c = 80
    · rw [if_pos h80, gL_head (by rw [h80]; decide), gB_head (by rw [h80]; decide)]
      unfold gP
      generalize hg : peerGet (c :: t) v = pg
      by_cases hc : pg.2 = 0
      · rw [if_pos hc]
        rw [if_pos hc]
        rfl
      · rw [if_neg hc]
        rw [if_neg hc]
        rfl
    · rw [if_neg h80, gP_head h80]
      by_cases h76 : c = 76
      · rw [if_pos h76, gB_head (by rw [h76]; decide)]
        unfold gL
        generalize hg : laneGet (c :: t) v = pg
        by_cases hc : pg.2 = 0
        · rw [if_pos hc]
          rw [if_pos hc]
          rfl
        · rw [if_neg hc]
          rw [if_neg hc]
          rfl
      · rw [if_neg h76, gL_head h76]
        by_cases h66 : c = 66
        · rw [if_pos h66]
          unfold gB
          generalize hg : bootsGet (c :: t) v = pg
          by_cases hc : pg.2 = 0
          · rw [if_pos hc]
            rw [if_pos hc]
            rfl
          · rw [if_neg hc]
            rw [if_neg hc]
            rfl
        · rw [if_neg h66, gB_head h66]
          rfl
noncomputable def stepR (s : Option T3) (r : RowD) : Option T3 := match s with | none => none | some s => stepO s r.1 r.2
theorem stepR_none : ∀ l : List RowD, l.foldl stepR none = none
  | [] => rfl
  | r :: t => stepR_none t
theorem fold_prog : ∀ (l : List RowD) (s : T3), l.foldl stepR (some s) = if l.all okR = true then some (s.1 ++ l.filterMap gP, s.2.1 ++ l.filterMap gL, (l.filterMap gB).foldl (fun _ v => v) s.2.2) else none
  | [], s => by simp
  | r :: t, s => by
    rw [List.foldl_cons]
    have hs : stepR (some s) r = stepO s r.1 r.2 := rfl
    rw [hs, stepO_eq, List.all_cons]
    cases hp : gP r with
    | some x =>
      have ho : okR r = true := by unfold okR; rw [hp]; rfl
      unfold pick
      dsimp only
      rw [fold_prog t, ho, Bool.true_and]
      simp [hp, gP_only hp]
    | none =>
      cases hq : gL r with
      | some x =>
        have ho : okR r = true := by unfold okR; rw [hp, hq]; rfl
        unfold pick
        dsimp only
        rw [fold_prog t, ho, Bool.true_and]
        simp [hp, hq, gL_only hq]
      | none =>
        cases hb : gB r with
        | some x =>
          have ho : okR r = true := by unfold okR; rw [hp, hq, hb]; rfl
          unfold pick
          dsimp only
          rw [fold_prog t, ho, Bool.true_and]
          simp [hp, hq, hb]
        | none =>
          have ho : okR r = false := by unfold okR; rw [hp, hq, hb]; rfl
          unfold pick
          dsimp only
          rw [stepR_none, ho]
          simp
/-! insertion -/
def insG {α : Type} (lt : α → α → Bool) (p : α) : List α → List α
  | [] => [p]
  | x :: r => if lt p x then p :: x :: r else x :: insG lt p r
theorem layF_done {α : Type} (lt : α → α → Bool) (p : α) : ∀ (l acc : List α), l.foldl (layF lt p) (acc, true) = (acc ++ l, true)
  | [], acc => by simp
  | x :: r, acc => by
    rw [List.foldl_cons]
    have : layF lt p (acc, true) x = (acc ++ [x], true) := by simp [layF]
    rw [this, layF_done lt p r]
    simp
theorem layF_ins {α : Type} (lt : α → α → Bool) (p : α) : ∀ (l acc : List α), (if (l.foldl (layF lt p) (acc, false)).2 then (l.foldl (layF lt p) (acc, false)).1 else (l.foldl (layF lt p) (acc, false)).1 ++ [p]) = acc ++ insG lt p l
  | [], acc => by simp [insG]
  | x :: r, acc => by
    rw [List.foldl_cons]
    by_cases h : lt p x = true
    · have : layF lt p (acc, false) x = (acc ++ [p, x], true) := by simp [layF, h]
      rw [this, layF_done]
      simp [insG, h]
    · have : layF lt p (acc, false) x = (acc ++ [x], false) := by simp [layF, h]
      rw [this, layF_ins lt p r]
      simp [insG, h]
theorem layG_ins {α : Type} (lt : α → α → Bool) (l : List α) (p : α) : layG lt l p = insG lt p l := by
  have := layF_ins lt p l []
  unfold layG
  simpa using this
section
variable {α : Type} {lt : α → α → Bool}
theorem insG_perm (p : α) : ∀ l : List α, (insG lt p l).Perm (p :: l)
  | [] => by simp [insG]
  | x :: r => by
    unfold insG
    split
    · exact List.Perm.refl _
    · exact ((insG_perm p r).cons x).trans (List.Perm.swap p x r)
theorem insG_sorted (asym : ∀ a b, lt a b = true → lt b a = false) (tr : ∀ a b c, lt b a = false → lt c b = false → lt c a = false) (p : α) : ∀ l : List α, l.Pairwise (fun a b => lt b a = false) → (insG lt p l).Pairwise (fun a b => lt b a = false)
  | [], _ => by simp [insG]
  | x :: r, h => by
    obtain ⟨h1, h2⟩ := List.pairwise_cons.1 h
    unfold insG
    by_cases hp : lt p x = true
    · rw [if_pos hp]
      refine List.pairwise_cons.2 ⟨fun y hy => ?_, h⟩
      rcases List.mem_cons.1 hy with rfl | hy
      · exact asym _ _ hp
      · exact tr _ _ _ (asym _ _ hp) (h1 y hy)
    · rw [if_neg hp]
      refine List.pairwise_cons.2 ⟨fun y hy => ?_, insG_sorted asym tr p r h2⟩
      rcases List.mem_cons.1 ((insG_perm p r).mem_iff.1 hy) with rfl | hy
      · simpa using hp
      · exact h1 y hy
theorem fold_ins (asym : ∀ a b, lt a b = true → lt b a = false) (tr : ∀ a b c, lt b a = false → lt c b = false → lt c a = false) : ∀ (xs l : List α), l.Pairwise (fun a b => lt b a = false) → (xs.foldl (layG lt) l).Pairwise (fun a b => lt b a = false) ∧ (xs.foldl (layG lt) l).Perm (l ++ xs)
  | [], l, h => ⟨h, by simp⟩
  | x :: r, l, h => by
    rw [List.foldl_cons, layG_ins]
    obtain ⟨h1, h2⟩ := fold_ins asym tr r (insG lt x l) (insG_sorted asym tr x l h)
    refine ⟨h1, h2.trans ?_⟩
    exact ((insG_perm x l).append_right r).trans (List.perm_middle.symm)
end
theorem val_acc : ∀ (l : List UInt8) (x : Nat), l.foldl (fun x b => x * 256 + b.toNat) x = x * 256 ^ l.length + val l
  | [], x => by simp [val]
  | b :: t, x => by
    have h : val (b :: t) = t.foldl (fun x b => x * 256 + b.toNat) (0 * 256 + b.toNat) := rfl
    rw [h, List.foldl_cons, val_acc t, val_acc t, List.length_cons, Nat.pow_succ]
    have e : x * 256 * 256 ^ t.length = x * (256 ^ t.length * 256) := by rw [Nat.mul_assoc, Nat.mul_comm 256]
    rw [Nat.add_mul, e, Nat.zero_mul, Nat.zero_add, Nat.add_assoc]
theorem val_cons (x : UInt8) (l : List UInt8) : val (x :: l) = x.toNat * 256 ^ l.length + val l := by
  have h : val (x :: l) = l.foldl (fun x b => x * 256 + b.toNat) (0 * 256 + x.toNat) := rfl
  rw [h, val_acc]
  simp
theorem val_mono : ∀ (l m : List UInt8), l.length = m.length → val l < val m → l < m
  | [], [], _, h => by simp at h
  | [], _ :: _, h, _ => by simp at h
  | _ :: _, [], h, _ => by simp at h
  | x :: l, y :: m, hl, h => by
    rw [val_cons, val_cons] at h
    have hlen : l.length = m.length := by simpa using hl
    rw [hlen] at h
    have h1 := val_lt l
    have h2 := val_lt m
    rw [hlen] at h1
    rw [List.cons_lt_cons_iff]
    by_cases hxy : x = y
    · subst hxy
      exact .inr ⟨rfl, val_mono l m hlen (by omega)⟩
    · refine .inl ?_
      rw [UInt8.lt_iff_toNat_lt]
      have hne : x.toNat ≠ y.toNat := fun e => hxy (UInt8.toNat_inj.1 e)
      rcases Nat.lt_or_ge x.toNat y.toNat with hc | hc
      · exact hc
      exfalso
      have hlt : y.toNat + 1 ≤ x.toNat := by omega
      have h3 : (y.toNat + 1) * 256 ^ m.length ≤ x.toNat * 256 ^ m.length := Nat.mul_le_mul_right _ hlt
      rw [Nat.add_mul, Nat.one_mul] at h3
      omega
theorem lessB_iff : ∀ (l m : List UInt8), lessB l m = decide (l < m)
  | [], [] => by simp [lessB]
  | [], y :: m => by simp [lessB]
  | x :: l, [] => by simp [lessB]
  | x :: l, y :: m => by
    unfold lessB
    by_cases h : x = y
    · subst h
      rw [if_pos rfl, lessB_iff l m]
      simp [List.cons_lt_cons_iff]
    · rw [if_neg h]
      simp [List.cons_lt_cons_iff, h]
/-! the order of peers and of lanes -/
theorem ltP_asym (a b : PeerD) (h : ltP a b = true) : ltP b a = false := by unfold ltP at *; simp at *; omega
theorem ltP_tr (a b c : PeerD) (h1 : ltP b a = false) (h2 : ltP c b = false) : ltP c a = false := by unfold ltP at *; simp at *; omega
theorem ltL_asym (a b : LaneD) (h : ltL a b = true) : ltL b a = false := by
  unfold ltL at *
  rw [lessB_iff] at *
  simp at *
  exact List.le_of_lt h
theorem ltL_tr (a b c : LaneD) (h1 : ltL b a = false) (h2 : ltL c b = false) : ltL c a = false := by
  unfold ltL at *
  rw [lessB_iff] at *
  simp at *
  exact List.le_trans h1 h2
theorem be_inj {m n : Nat} (hm : m ≤ 4294967295) (hn : n ≤ 4294967295) (h : be 4 m = be 4 n) : m = n := by
  have := congrArg val h
  rw [val_be, val_be, Nat.mod_eq_of_lt (by omega), Nat.mod_eq_of_lt (by omega)] at this
  exact this
theorem ordP {r q : RowD} {x y : PeerD} (hx : gP r = some x) (hy : gP q = some y) (h : r.1 ≤ q.1) : ltP y x = false := by
  obtain ⟨k1, a1, b1⟩ := gP_key hx
  obtain ⟨k2, a2, b2⟩ := gP_key hy
  cases e : ltP y x with
  | false => rfl
  | true =>
    unfold ltP at e
    have hlt : y.link < x.link := by simpa using e
    exfalso
    apply h
    rw [k1, k2, List.cons_lt_cons_iff]
    refine .inr ⟨rfl, val_mono _ _ (by rw [be_len, be_len]) ?_⟩
    rw [val_be, val_be, Nat.mod_eq_of_lt (by omega), Nat.mod_eq_of_lt (by omega)]
    omega
theorem ordL {r q : RowD} {x y : LaneD} (hx : gL r = some x) (hy : gL q = some y) (h : r.1 ≤ q.1) : ltL y x = false := by
  have k1 := gL_key hx
  have k2 := gL_key hy
  cases e : ltL y x with
  | false => rfl
  | true =>
    unfold ltL at e
    rw [lessB_iff] at e
    exfalso
    apply h
    rw [k1, k2, List.cons_lt_cons_iff]
    exact .inr ⟨rfl, by simpa using e⟩
theorem one_row {l : List RowD} (hn : (l.map Prod.fst).Nodup) {r q : RowD} (hr : r ∈ l) (hq : q ∈ l) (h : r.1 = q.1) : r = q := by
  induction l with
  | nil => cases hr
  | cons x t ih =>
    rw [List.map_cons, List.nodup_cons] at hn
    rcases List.mem_cons.1 hr with e1 | hr2
    · rcases List.mem_cons.1 hq with e2 | hq2
      · rw [e1, e2]
      · exact absurd (List.mem_map.2 ⟨q, hq2, by rw [← h, e1]⟩) hn.1
    · rcases List.mem_cons.1 hq with e2 | hq2
      · exact absurd (List.mem_map.2 ⟨r, hr2, by rw [h, e2]⟩) hn.1
      · exact ih hn.2 hr2 hq2
theorem valOf_mem {l : List RowD} (hn : (l.map Prod.fst).Nodup) {r : RowD} (hr : r ∈ l) : valOf l r.1 = r.2 := by
  unfold valOf
  cases e : l.find? (fun q => q.1 == r.1) with
  | none => have := List.find?_eq_none.1 e r hr; simp at this
  | some q =>
    have h1 := List.find?_some e
    have h2 := List.mem_of_find?_eq_some e
    rw [one_row hn h2 hr (by simpa using h1)]
/-- the rows in the order of their keys -/
def rowsL (l : List RowD) : List RowD := (keysL l).map (fun k => (k, valOf l k))
theorem rowsL_perm {l : List RowD} (hn : (l.map Prod.fst).Nodup) : (rowsL l).Perm l := by
  have h1 : (rowsL l).Perm ((l.map Prod.fst).map (fun k => (k, valOf l k))) := (List.mergeSort_perm _ _).map _
  have h2 : (l.map Prod.fst).map (fun k => (k, valOf l k)) = l := by
    rw [List.map_map]
    conv => rhs; rw [← List.map_id l]
    apply List.map_congr_left
    intro r hr
    show (r.1, valOf l r.1) = r
    rw [valOf_mem hn hr]
  rw [h2] at h1
  exact h1
theorem rowsL_sorted (l : List RowD) : (rowsL l).Pairwise (fun r q => r.1 ≤ q.1) := by
  have tr : ∀ a b c : List UInt8, decide (a ≤ b) = true → decide (b ≤ c) = true → decide (a ≤ c) = true := fun a b c h1 h2 => by simp only [decide_eq_true_eq] at *; exact List.le_trans h1 h2
  have tot : ∀ a b : List UInt8, (decide (a ≤ b) || decide (b ≤ a)) = true := fun a b => by simp only [Bool.or_eq_true, decide_eq_true_eq]; exact List.le_total a b
  have h := List.pairwise_mergeSort tr tot (l.map Prod.fst)
  exact List.pairwise_map.2 (h.imp (fun h => by simpa using h))
theorem foldK_rows (l : List RowD) : foldK l = (rowsL l).foldl stepR (some ([], [], 0)) := by
  unfold foldK rowsL
  rw [List.foldl_map]
  rfl
theorem twice_nodup (l : List RowD) : twiceB l = false ↔ (l.map Prod.fst).Nodup := by
  unfold twiceB
  rw [decide_eq_false_iff_not, List.nodup_iff_pairwise_ne, List.pairwise_map, List.pairwise_iff_getElem]
  constructor
  · intro h i j hi hj hij e
    exact h ⟨j, hj, i, hij, by simpa [hi, hj] using e.symm⟩
  · rintro h ⟨i, hi, j, hij, e⟩
    refine h j i (by omega) hi hij ?_
    simpa [hi, show j < l.length by omega] using e.symm
theorem mem_fm {α : Type} {g : RowD → Option α} {l : List RowD} {x : α} (h : x ∈ l.filterMap g) : ∃ r, r ∈ l ∧ g r = some x := List.mem_filterMap.1 h
/-- both answer alike -/
theorem progState_eq (l : List RowD) : progState l = refState l := by
  unfold progState refState foldS
  rw [fold_ref]
  by_cases hn : (l.map Prod.fst).Nodup
  · rw [if_pos hn, (twice_nodup l).2 hn, foldK_rows, fold_prog]
    have hp := rowsL_perm hn
    have hso := rowsL_sorted l
    have hall : (rowsL l).all okR = l.all okR := by
      rw [Bool.eq_iff_iff, List.all_eq_true, List.all_eq_true]
      exact ⟨fun h x hx => h x (hp.mem_iff.2 hx), fun h x hx => h x (hp.mem_iff.1 hx)⟩
    rw [hall]
    dsimp only
    cases hok : l.all okR with
    | false => simp [ansK]
    | true =>
      have e1 : (l.filterMap gP).foldl (layG ltP) [] = (rowsL l).filterMap gP := by
        obtain ⟨s1, p1⟩ := fold_ins ltP_asym ltP_tr (l.filterMap gP) [] List.Pairwise.nil
        have s2 : ((rowsL l).filterMap gP).Pairwise (fun a b => ltP b a = false) := by
          rw [List.pairwise_filterMap]
          exact hso.imp (fun h a ha b hb => ordP ha hb h)
        refine List.Perm.eq_of_pairwise (le := fun a b => ltP b a = false) (fun a b ha hb h1 h2 => ?_) s1 s2 (p1.trans (by simpa using (hp.filterMap gP).symm))
        obtain ⟨r, hr, er⟩ := mem_fm (l := l) (by simpa using p1.mem_iff.1 ha)
        obtain ⟨q, hq, eq⟩ := mem_fm hb
        have hq := hp.mem_iff.1 hq
        have hl : a.link = b.link := by unfold ltP at h1 h2; simp at h1 h2; omega
        have hk : r.1 = q.1 := by rw [(gP_key er).1, (gP_key eq).1, hl]
        have := one_row hn hr hq hk
        rw [this, eq] at er
        injection er with er
        exact er.symm
      have e2 : (l.filterMap gL).foldl (layG ltL) [] = (rowsL l).filterMap gL := by
        obtain ⟨s1, p1⟩ := fold_ins ltL_asym ltL_tr (l.filterMap gL) [] List.Pairwise.nil
        have s2 : ((rowsL l).filterMap gL).Pairwise (fun a b => ltL b a = false) := by
          rw [List.pairwise_filterMap]
          exact hso.imp (fun h a ha b hb => ordL ha hb h)
        refine List.Perm.eq_of_pairwise (le := fun a b => ltL b a = false) (fun a b ha hb h1 h2 => ?_) s1 s2 (p1.trans (by simpa using (hp.filterMap gL).symm))
        obtain ⟨r, hr, er⟩ := mem_fm (l := l) (by simpa using p1.mem_iff.1 ha)
        obtain ⟨q, hq, eq⟩ := mem_fm hb
        have hq := hp.mem_iff.1 hq
        have hl : a.key = b.key := by
          unfold ltL at h1 h2
          rw [lessB_iff] at h1 h2
          simp at h1 h2
          exact List.le_antisymm h1 h2
        have hk : r.1 = q.1 := by rw [gL_key er, gL_key eq, hl]
        have := one_row hn hr hq hk
        rw [this, eq] at er
        injection er with er
        exact er.symm
      have e3 : (rowsL l).filterMap gB = l.filterMap gB := by
        have hone : ∀ (m : List Int), (∀ x ∈ m, x ∈ l.filterMap gB) → m.Pairwise (fun a b => a = b) := fun m hm => by
          rw [List.pairwise_iff_getElem]
          intro i j hi hj _
          obtain ⟨r, hr, er⟩ := mem_fm (hm _ (List.getElem_mem hi))
          obtain ⟨q, hq, eq⟩ := mem_fm (hm _ (List.getElem_mem hj))
          have := one_row hn hr hq (by rw [gB_key er, gB_key eq])
          rw [this, eq] at er
          injection er with er
          exact er.symm
        refine List.Perm.eq_of_pairwise (le := fun a b => a = b) (fun a b _ _ h1 _ => h1) (hone _ (fun x hx => (hp.filterMap gB).mem_iff.1 hx)) (hone _ (fun x hx => hx)) (hp.filterMap gB)
      rw [e1, e2, e3]
      simp [ansK]
  · rw [if_neg hn]
    have ht : twiceB l = true := by
      cases h : twiceB l with
      | true => rfl
      | false => exact absurd ((twice_nodup l).1 h) hn
    rw [ht]
    simp
end Go.Proofs.YtgbjhlkjceonpaaGreat.Lst
/- The walk of RowsState. -/
namespace Go.Proofs.YtgbjhlkjceonpaaGreat.rowsState
open Go.RowKit Go.Proofs.YtgbjhlkjceonpaaGreat.K Go.Proofs.YtgbjhlkjceonpaaGreat.Help Go.Proofs.YtgbjhlkjceonpaaGreat.Lst
set_option linter.unusedVariables false

set_option maxRecDepth 100000 in
set_option maxHeartbeats 2000000 in
theorem walk (A : Option Addr) (a : Nat) (l : List RowD) (W : World) (hl : Lst RowE W (fun _ => False) A a l) :
    Calls Tryz.prog 3 #[.slice A l.length a] W fun e W' => e = .returned (.bool true) ∧ Below W.heap.size W W' := by
  by_cases hn : l.length ≤ 60
  · have hm : ¬ (60 : Int) < (l.length : Int) := by omega
    have HL := Lib.hid hl
    have R1 := Lib.hid (rows_any A a l W hl (by omega))
    have R2 := Lib.hid (fun A a w h => state_any A a l w h (by omega))
    have R3 := Lib.hid (fun A a w h => refState_any A a l w h (by omega))
    rw [progState_eq] at R2
    have h1 := hl.le
    have h2 := hl.max
    generalize refState l = res at *
    obtain ⟨ps, ls, bo, code⟩ := res
    have SP := Lib.hid (fun A B a b w h h' => samePeers_self A B a b ps w h h')
    have SL := Lib.hid (fun A B a b w h h' => sameLanes_self A B a b ls w h h')
    clear hl hn
    go_enter Tryz.func3, Tryz.ntmps3
    go_wp2_with fail
    refine R1.out.mono ?_
    rintro e w1 ⟨A1, a1, rfl, l1, hb1⟩
    have W1 := Lib.hid hb1
    have L1 := Lib.hid l1
    clear l1 hb1
    go_wp2_with fail
    refine (R2.out A1 a1 w1 L1.out).mono ?_
    rintro e w2 ⟨A2, a2, B2, b2, rfl, p2, q2, hb2⟩
    dsimp only at p2 q2 ⊢
    have W2 := Lib.hid (below_step W1.out hb2)
    have P2 := Lib.hid p2
    have Q2 := Lib.hid q2
    clear p2 q2 hb2
    go_wp2_with fail
    refine (R3.out A a w2 (HL.out.below W2.out)).mono ?_
    rintro e w3 ⟨A3, a3, B3, b3, rfl, p3, q3, hb3⟩
    dsimp only at p3 q3 ⊢
    have W3 := Lib.hid (below_step W2.out hb3)
    have P3 := Lib.hid p3
    have Q3 := Lib.hid q3
    have P23 := Lib.hid (P2.out.below hb3)
    have Q23 := Lib.hid (Q2.out.below hb3)
    clear p3 q3 hb3
    go_wp2_with fail
    refine (SP.out A2 A3 a2 a3 w3 P23.out P3.out).mono ?_
    rintro e w4 ⟨rfl, hb4⟩
    have W4 := Lib.hid (below_step W3.out hb4)
    have Q24 := Lib.hid (Q23.out.below hb4)
    have Q34 := Lib.hid (Q3.out.below hb4)
    clear hb4
    go_wp2_with fail
    refine (SL.out B2 B3 b2 b3 w4 Q24.out Q34.out).mono ?_
    rintro e w5 ⟨rfl, hb5⟩
    have W5 := Lib.hid (below_step W4.out hb5)
    clear hb5
    go_wp2_with (go_at_call 11; refine (num_any _ _).mono ?_; rintro e w' ⟨rfl, rfl⟩)
    refine (first_any _).mono ?_
    rintro e w6 ⟨rfl, hb6⟩
    have W6 := Lib.hid (below_step W5.out hb6)
    clear hb6
    go_wp2_with fail
    go_ret
    exact ⟨rfl, W6.out⟩
  · have hm : (60 : Int) < (l.length : Int) := by omega
    clear hl
    generalize l.length = n at *
    go_enter Tryz.func3, Tryz.ntmps3
    go_wp2_with fail
    go_ret
    exact ⟨rfl, Below.refl _ _⟩
end Go.Proofs.YtgbjhlkjceonpaaGreat.rowsState
