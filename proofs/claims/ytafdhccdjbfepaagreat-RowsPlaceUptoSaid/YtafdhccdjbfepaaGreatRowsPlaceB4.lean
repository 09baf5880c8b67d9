/- Contracts of the functions that RowsPlace reaches: part 4 of 7. -/
import Derived.Test.YtafdhccdjbfepaaGreatRowsPlaceB3
import Derived.Maps.OwnSet
import Derived.Maps.RangeWalk
import Derived.Sort.KeysCollected
import Derived.Sort.OwnSorted
import Derived.Shelf.Sort.Plain
import Derived.Shelf.Slices.In.SortNone
import Derived.LoopN
/- The walk of the document's GetPeer. -/
namespace Go.Proofs.YtafdhccdjbfepaaGreat.Peer
open Go.RowKit Go.Proofs.YtafdhccdjbfepaaGreat.K Go.Proofs.YtafdhccdjbfepaaGreat.Help Go.Proofs.YtafdhccdjbfepaaGreat.Pfx
set_option linter.unusedVariables false

set_option maxRecDepth 100000 in
set_option maxHeartbeats 4000000 in
theorem refGetPeer_len (A B : Option Addr) (c d : Nat) (k v : List UInt8) (w : World) (ha : Bs w A c k) (hb : Bs w B d v) (hk : k.length = 5) (hv : 33 ≤ v.length) :
    Calls Tryz.prog 49 #[.agg #[.slice A k.length c, .slice B v.length d]] w (GotP w (peerGet k v)) := by
  obtain ⟨bd, rfl, hbdb, hbc0⟩ := hb.at_ 0 (by omega)
  rw [show bd.add 0 = bd by simp [Addr.add]] at hbc0
  obtain ⟨bb, bo, rfl⟩ : ∃ b o, bd = ⟨b, o, none⟩ := ⟨_, _, cell_spot hbc0⟩
  have hbc : w.cell? ⟨bb, bo + 32, none⟩ = some (.int .u8 ((v.getD 32 0).toNat : Int)) := by
    obtain ⟨ad, e, -, h2⟩ := hb.at_ 32 (by omega)
    cases e
    have hda : (⟨bb, bo, none⟩ : Addr).add 32 = ⟨bb, bo + 32, none⟩ := by simp [Addr.add]
    rwa [hda] at h2
  dsimp only at hbdb
  clear hbc0
  have hdne : ¬ d = 32 := by have := hb.le; omega
  have hbc2 := hb.le
  have hvm := hb.max
  have HR := Lib.hid (peerRd_len hk hv)
  have HA := Lib.hid ha
  have HB := Lib.hid hb
  have H0 := Lib.hid (PZ.start 47 w #[.slice A k.length c, .slice (some ⟨bb, bo, none⟩) v.length d])
  have g1 : ((k.length : Int) != 5) = false := by rw [bne_eq_false_iff_eq]; omega
  have i1b : decide ((v.length : Int) < 33) = false := by simp; omega
  have i1 : (33 : Int) ≤ (v.length : Int) := by omega
  have i2 : (v.length : Int) ≤ (d : Int) := by omega
  have i3 : (32 : Int) < (v.length : Int) := by omega
  have i4 : (32 : Int) ≤ (v.length : Int) := by omega
  have i5 : (32 : Int) ≤ (d : Int) := by omega
  have hkl : 5 ≤ k.length := by omega
  have HKV := Lib.hid (show k.length = 5 ∧ 33 ≤ v.length from ⟨hk, hv⟩)
  clear ha hb hk
  have bd0 : Bs w (some ⟨bb, bo, none⟩) d (v.take 32) := ⟨by rw [List.length_take]; omega, by rw [List.length_take]; omega, fun i hi => by
    rw [List.length_take] at hi
    obtain ⟨ad, e, h1, h2⟩ := HB.out.at_ i (by omega)
    refine ⟨ad, e, h1, h2.trans ?_⟩
    rw [take_getD v i 32 (by omega)]⟩
  have htl : (v.take 32).length = 32 := by rw [List.length_take]; omega
  have BY := Lib.hid (fun W h => Help.bytes (some ⟨bb, bo, none⟩) d (v.take 32) W h)
  rw [htl] at BY
  have BD := Lib.hid bd0
  have HTL := Lib.hid htl
  clear bd0 htl
  have HRD := Lib.hid (fun W h => Help.read A c k 1 4 W h (by decide) (by decide))
  have hrb : rdAt k 1 4 < 4294967296 := Nat.lt_of_lt_of_le (rdAt_pow k 1 4) (by decide)
  have hb0 := (v.getD 32 0).toNat_lt
  rw [← rdAt_cut (v := k) (a := 1) (n := 4) (by omega)] at HR
  generalize rdAt k 1 4 = link at *
  generalize (v.getD 32 0).toNat = x0 at *
  generalize hkt : v.take 32 = key at *
  clear hkt
  generalize hg : peerGet k v = got
  have HG := Lib.hid hg
  clear hg
  unfold peerGet at HG
  rw [HR.out] at HG
  clear HR
  generalize hnv : v.length = nv at *
  generalize hnk : k.length = nk at *
  have HNV := Lib.hid hnv
  have HNK := Lib.hid hnk
  clear hnv hnk
  go_enter Tryz.func49, Tryz.ntmps49
  go_upto_region 3 with fail
  go_cut [4] (fun s wx => QCut w (.slice A nk c) (.slice (some ⟨bb, bo, none⟩) nv d) link key s wx)
  case first =>
    have hlt0 := H0.out.lt
    unfold zpC peC at H0
    generalize (w.alloc (.cells #[.slice A nk c, .slice (some ⟨bb, bo, none⟩) nv d] 47)).alloc (.cells #[.int .i64 0, .slice none 0 0, .slice none 0 0] 36) = W0 at H0 ⊢
    have s0 : W0.cell? ⟨w.heap.size, 0, none⟩ = some (.slice A nk c) := H0.out.cell 0
    have s1 : W0.cell? ⟨w.heap.size, 1, none⟩ = some (.slice (some ⟨bb, bo, none⟩) nv d) := H0.out.cell 1
    have hw64 : IntKind.i64.wrap (link : Int) = link := IntWalk.i64_in _ (by omega)
    go_region_held3 (fun w' => w'.cell? ⟨w.heap.size, 0, none⟩ = some (.slice A nk c) ∧ w'.cell? ⟨w.heap.size, 1, none⟩ = some (.slice (some ⟨bb, bo, none⟩) nv d)) (first | go_keep | exact ⟨d0, d1⟩)
      (first
      | (go_at_call 47; refine (BY.out _ (by first | exact H0.out.bs BD.out | exact (H0.out.bs BD.out).drewN _ | exact (H0.out.bs BD.out).below (below_alloc (Below.refl _ _) _) | exact ((H0.out.bs BD.out).below (below_alloc (Below.refl _ _) _)).drewN _)).mono ?_
         rintro e w1 ⟨v1', rfl, o1, hb1⟩
         obtain ⟨A1, c1, rfl, t1⟩ := o1.bs
         have h1 : PZ 47 w w1 #[.slice A nk c, .slice (some ⟨bb, bo, none⟩) nv d] := (by first | exact H0.out.step hb1 | exact (H0.out.step (below_drewN (Below.refl _ _) _)).step hb1 | exact (H0.out.step (below_alloc (Below.refl _ _) _)).step hb1 | exact ((H0.out.step (below_alloc (Below.refl _ _) _)).step (below_drewN (Below.refl _ _) _)).step hb1)
         have d0 : w1.cell? ⟨w.heap.size, 0, none⟩ = some (.slice A nk c) := h1.cell 0
         have d1 : w1.cell? ⟨w.heap.size, 1, none⟩ = some (.slice (some ⟨bb, bo, none⟩) nv d) := h1.cell 1
         have H1 := Lib.hid h1
         have S1 := Lib.hid t1
         have NW1 : Hid (Nw w A1) := Lib.hid (Own.nw o1 (by have := H0.out.lt; first | omega | (simp; omega)))
         have P1 := Lib.hid (show PersP _ w1 from fun g cs fr h => (hb1.block _ (blk_lt h)).trans h)
         clear o1 hb1 t1 h1
         (try (have zA := P1.out _ _ _ (blk_new W0 _); obtain ⟨ya0, ya1, ya2, yb0, yb1, yb2⟩ := zero_pcells zA; have ZA := Lib.hid zA; have nA1 : ¬ w.heap.size = W0.heap.size := (by have := H0.out.lt; omega); have nA2 : ¬ W0.heap.size = w.heap.size := (by have := H0.out.lt; omega); clear zA)))
      | (go_at_call 86; refine (HRD.out _ (by first | exact H0.out.bs HA.out | exact (H0.out.bs HA.out).drewN 1 | exact (H0.out.bs HA.out).drewN _ | exact (H0.out.bs HA.out).below (below_alloc (Below.refl _ _) _) | exact ((H0.out.bs HA.out).below (below_alloc (Below.refl _ _) _)).drewN _ | exact H1.out.bs HA.out | exact (H1.out.bs HA.out).drewN 1 | exact (H1.out.bs HA.out).drewN _ | exact (H1.out.bs HA.out).below (below_alloc (Below.refl _ _) _) | exact ((H1.out.bs HA.out).below (below_alloc (Below.refl _ _) _)).drewN _)).mono ?_; rintro e w' ⟨rfl, rfl⟩))
    all_goals
      go_wp2_with fail
      go_meet
      first
      | exact QCut.new H1.out S1.out NW1.out
      | exact QCut.mk' H1.out S1.out ZA.out H0.out.lt NW1.out
  case rest =>
    obtain ⟨X, A2, a2, rfl, hr, hs, hX, hlt, hnw⟩ := hcut
    have NWX := Lib.hid hnw
    clear hnw
    have HX := Lib.hid hX
    have HZ := Lib.hid hr
    have HS := Lib.hid hs
    have HBC := Lib.hid (HB.out.below hr.below)
    have HXL := Lib.hid hlt
    have HXW : Hid (X < wc.heap.size) := Lib.hid (blk_lt hX.b)
    have hbcc : wc.cell? ⟨bb, bo + 32, none⟩ = some (.int .u8 x0) := (hr.below.cell (p := ⟨bb, bo + 32, none⟩) hbdb).trans hbc
    have HC32 := Lib.hid hbcc
    clear hr hs hX hlt hbc hbcc
    have hx0 : (0 : Int) ≤ (x0 : Int) := by omega
    go_wp2_with fail
    go_loopg [6, 5] x0 (fun gk i s wr => ∃ (n p : Nat) (ps : List PfxI) (B : Option Addr) (b : Nat), n ≤ x0 ∧ gk = x0 - n ∧ i = .int .i64 (n : Int) ∧ s = .int .i64 (p : Int) ∧ p ≤ nv ∧ getN n (v.drop 33) = some (ps, v.drop p) ∧ PLoop wc wr X link A2 key.length a2 (.slice B ps.length b) ps)
    case atStart => exact ⟨0, 33, [], none, 0, by omega, rfl, rfl, rfl, by omega, rfl, ⟨HX.out.b, OwnP.nil _ _, Only.refl _ _, HXW.out⟩⟩
    case round =>
      obtain ⟨n, p, ps, B, b, hn, rfl, rfl, rfl, hp, hg, hL⟩ := hrel
      have HGN := Lib.hid hg
      have HL := Lib.hid hL
      have HZR : Hid (PZ 47 w wr #[.slice A nk c, .slice (some ⟨bb, bo, none⟩) nv d]) := Lib.hid (HZ.out.only hL.on (fun i hi => by rw [hi]; exact HXL.out))
      have HBR := Lib.hid (HX.out.bs HBC.out hL.on)
      have HSR := Lib.hid (HX.out.bs HS.out hL.on)
      have c1 : wr.cell? ⟨w.heap.size, 1, none⟩ = some (.slice (some ⟨bb, bo, none⟩) nv d) := HZR.out.cell 1
      have c32 : wr.cell? ⟨bb, bo + 32, none⟩ = some (.int .u8 x0) :=
        (cell_blk (ad := ⟨bb, bo + 32, none⟩) (hL.on.block bb (by have := HXW.out; have := HXL.out; omega) (by have := HXL.out; omega))).trans HC32.out
      clear hg hL
      by_cases hlt : n < x0
      · have hlt2 : (n : Int) < x0 := by omega
        have hn0 : (0 : Int) ≤ (n : Int) := by omega
        obtain ⟨A9, hcut, hcb⟩ := bs_cut (some ⟨bb, bo, none⟩) d v p (by rw [HNV.out]; exact hp)
        rw [HNV.out] at hcut
        have HCB := Lib.hid (hcb wr HBR.out)
        have V := Lib.hid (refGetP_any A9 (d - p) (v.drop p) wr HCB.out)
        have HP := Lib.hid (pfxGet_b (v.drop p))
        obtain ⟨⟨⟨fam, hi, lo, bits⟩, m, er⟩, hpg⟩ : ∃ r, pfxGet (v.drop p) = r := ⟨_, rfl⟩
        rw [hpg] at V HP
        rw [List.length_drop, HNV.out] at V HP
        have HPG := Lib.hid hpg
        clear hpg hcb
        unfold pgV pfV at V
        dsimp only at V HP
        have hp0 : (0 : Int) ≤ (p : Int) := by omega
        have hpn : (p : Int) ≤ (nv : Int) := by omega
        go_wp2_with fail
        refine V.out.mono ?_
        rintro e w7 ⟨rfl, hb7⟩
        have L7 := Lib.hid (HL.out.below hb7)
        have Z7 := Lib.hid (HZR.out.step hb7)
        clear hb7
        by_cases he : er = 0
        · subst he
          have hn := HP.out.2.2.1 rfl
          have hm1 := hn.1
          have hm2 : (p : Int) + (m : Int) ≤ (nv : Int) := by have := hn.2; omega
          have HQ := Lib.hid (getN_step HGN.out HPG.out)
          have hba := below_alloc (below_alloc (Below.refl w7.heap.size w7) (.cells #[.int .i64 fam, .int .u64 (hi : Int), .int .u64 (lo : Int), .int .i64 (bits : Int)] 110)) (.cells #[.int .i64 fam, .int .u64 (hi : Int), .int .u64 (lo : Int), .int .i64 (bits : Int)] 110)
          have L8 := Lib.hid (L7.out.below hba)
          have X8 : Hid (((w7.alloc (.cells #[.int .i64 fam, .int .u64 (hi : Int), .int .u64 (lo : Int), .int .i64 (bits : Int)] 110)).alloc (.cells #[.int .i64 fam, .int .u64 (hi : Int), .int .u64 (lo : Int), .int .i64 (bits : Int)] 110)).heap[w7.heap.size + 1]? = some (.cells (pcs (fam, hi, lo, (bits : Int))).toArray 110 (0, 0))) := by
            have := blk_new (w7.alloc (.cells #[.int .i64 fam, .int .u64 (hi : Int), .int .u64 (lo : Int), .int .i64 (bits : Int)] 110)) (.cells #[.int .i64 fam, .int .u64 (hi : Int), .int .u64 (lo : Int), .int .i64 (bits : Int)] 110)
            rw [show (w7.alloc (.cells #[.int .i64 fam, .int .u64 (hi : Int), .int .u64 (lo : Int), .int .i64 (bits : Int)] 110)).heap.size = w7.heap.size + 1 by simp] at this
            exact this
          have c2a := (L7.out.below (below_alloc (Below.refl w7.heap.size w7) (.cells #[.int .i64 fam, .int .u64 (hi : Int), .int .u64 (lo : Int), .int .i64 (bits : Int)] 110))).c2
          have HPS : Hid (ps.length ≤ 100000) := by rw [Hid, getN_len HGN.out]; omega
          have hdr : (v.drop p).drop m = v.drop (p + m) := List.drop_drop ..
          rw [hdr] at HQ
          clear hba hdr
          go_wp2_with (at_builtin; refine push_pfx (B := wc.heap.size) (W0 := _) rfl (.tmp 55) (.tmp 57) rfl (.slice B ps.length b) ps (fam, hi, lo, (bits : Int)) (w7.heap.size + 1) 1 rfl rfl L8.out.own X8.out ⟨HP.out.1, HP.out.2.1⟩ (Below.refl _ _) L8.out.on.size HPS.out ?_; intro A3 c3 w8 o8 _ k8; obtain ⟨g1, g2, g3⟩ := L8.out.grow o8 k8; have L9 := Lib.hid g3; clear o8 k8 g3)
          go_roundg (x0 - (n + 1))
          case measure => omega
          case rel => exact ⟨n + 1, p + m, ps ++ [(fam, hi, lo, (bits : Int))], A3, c3, by omega, rfl, by go_num, by go_num, by omega, HQ.out, by simpa using L9.out⟩
        · have hen : (er != 0) = true := by simpa using he
          have HQ := Lib.hid (getN_stop HGN.out HPG.out he)
          have HGB : Hid (got = (zeroPeer, 114)) := by
            have := HG.out
            unfold peerOf at this
            rw [getN_none HQ.out (by omega)] at this
            dsimp only at this
            rw [putPeer_bad zeroPeer_bad, if_neg (by simp)] at this
            exact this.symm
          have hba := below_alloc (Below.refl w7.heap.size w7) (.cells #[.int .i64 fam, .int .u64 (hi : Int), .int .u64 (lo : Int), .int .i64 (bits : Int)] 110)
          have Z8 := Lib.hid (Z7.out.step hba)
          clear hba
          obtain ⟨r0, r1, r2, z0, z1, z2⟩ := Z8.out.r.cells
          have FF := Lib.hid (Z8.out.fin zeroPeer (A2 := none) (a2 := 0) (B2 := none) (b2 := 0) (Bs.nil _ _ _) (Ps.nil _))
          have JJ := Lib.hid FF.out.1.cells
          unfold fill3 zeroPeer at JJ
          dsimp only [List.length_nil] at JJ
          have hG := HGB.out
          subst hG
          go_wp2_with fail
          obtain ⟨j0, j1, j2, -, -, -⟩ := JJ.out
          exact bodyPost_ret (v := .tuple #[.agg #[.int .i64 0, .slice none 0 0, .slice none 0 0], .int .i64 114]) (by simp [results, Tryz.results49, go_sem, j0, j1, j2]) rfl ⟨none, 0, none, 0, rfl, FF.out.2.1, FF.out.2.2.1, FF.out.2.2.2, Nw.none _, Nw.none _⟩
      · obtain rfl : n = x0 := by omega
        have hG2 := HG.out
        unfold peerOf at hG2
        rw [HGN.out] at hG2
        dsimp only at hG2
        have HG2 := Lib.hid hG2
        have NB : Hid (PBox wr X link A2 key.length a2 B ps.length b) := ⟨HL.out.b⟩
        obtain ⟨p0, p1, p2, -, -, -⟩ := NB.out.cells
        have HPs : Hid (Ps wr B b ps) := by
          obtain ⟨B2, b2, e, h⟩ := HL.out.own.ps
          injection e with e1 e2 e3
          subst e1 e3
          exact h
        have P := Lib.hid (refPutPeer_any A2 B a2 b ⟨link, key, ps⟩ wr HSR.out HPs.out)
        clear hG2
        unfold peerV at P
        generalize putPeer ⟨link, key, ps⟩ = pl at *
        obtain ⟨k', v', code⟩ := pl
        dsimp only at P HG2
        have c0 : wr.cell? ⟨w.heap.size, 0, none⟩ = some (.slice A nk c) := HZR.out.cell 0
        go_wp2_with fail
        refine P.out.mono ?_
        rintro e w4 ⟨v1, v2, rfl, o1, o2, hb4⟩
        obtain ⟨B1, d1, rfl, q1⟩ := o1.bs
        obtain ⟨B2', d2, rfl, q2⟩ := o2.bs
        have hb5 := below_alloc hb4 (.cells #[.slice B1 k'.length d1, .slice B2' v'.length d2] 47)
        have hb6 := below_alloc (Below.refl w4.heap.size w4) (.cells #[.slice B1 k'.length d1, .slice B2' v'.length d2] 47)
        have h8 := HZR.out.step hb5
        have y0 := (h8.cell 0).trans (b := some (Value.slice A nk c)) rfl
        have y1 := (h8.cell 1).trans (b := some (Value.slice (some ⟨bb, bo, none⟩) nv d)) rfl
        have S := sameRow B1 B2' A (some ⟨bb, bo, none⟩) d1 d2 c d k' v' k v _ (q1.below hb6) (q2.below hb6) (h8.bs HA.out) (h8.bs HB.out)
        rw [HNK.out, HNV.out] at S
        have C8 := Lib.hid h8
        have N8 := Lib.hid (NB.out.below hb5)
        have S8 := Lib.hid (HSR.out.below hb5)
        have P8 := Lib.hid (HPs.out.below hb5)
        have SS := Lib.hid S
        clear o1 o2 hb4 q1 q2 hb5 hb6 h8 S
        generalize hsm : (decide (k' = k) && decide (v' = v)) = sm at *
        go_wp2_with fail
        refine SS.out.mono ?_
        rintro e w6 ⟨rfl, hb7⟩
        have h9 := C8.out.step hb7
        have N9 := Lib.hid (N8.out.below hb7)
        have S9 := Lib.hid (S8.out.below hb7)
        have P9 := Lib.hid (P8.out.below hb7)
        obtain ⟨p0, p1, p2, -, -, -⟩ := N9.out.cells
        obtain ⟨r0, r1, r2, z0, z1, z2⟩ := h9.r.cells
        have C9 := Lib.hid h9
        clear hb7 h9 SS y0 y1
        by_cases hgood : code = 0 ∧ k' = k ∧ v' = v
        · have hG := HG2.out
          rw [if_pos hgood] at hG
          subst hG
          have hsm1 : sm = true := by rw [← hsm]; simp [hgood.2.1, hgood.2.2]
          obtain ⟨rfl, _, _⟩ := hgood
          subst hsm1
          have FF := Lib.hid (C9.out.fin ⟨link, key, ps⟩ S9.out P9.out)
          have JJ := Lib.hid FF.out.1.cells
          unfold fill3 at JJ
          dsimp only at JJ
          clear hsm HG HG2
          go_wp2_with fail
          obtain ⟨j0, j1, j2, -, -, -⟩ := JJ.out
          exact bodyPost_ret (v := .tuple #[.agg #[.int .i64 (link : Int), .slice A2 key.length a2, .slice B ps.length b], .int .i64 0]) (by simp [results, Tryz.results49, go_sem, j0, j1, j2]) rfl ⟨A2, a2, B, b, rfl, FF.out.2.1, FF.out.2.2.1, FF.out.2.2.2, NWX.out, OwnP.nw HL.out.own (by have := HXL.out; have := HXW.out; omega)⟩
        · have hG := HG2.out
          rw [if_neg hgood] at hG
          subst hG
          have hcs : (code != 0) = true ∨ ((code != 0) = false ∧ sm = false) := by
            by_cases h1 : code = 0
            · refine .inr ⟨by simp [h1], ?_⟩
              rw [← hsm, Bool.and_eq_false_iff]
              by_cases h : k' = k
              · exact .inr (decide_eq_false (fun h' => hgood ⟨h1, h, h'⟩))
              · exact .inl (decide_eq_false h)
            · exact .inl (by simp [h1])
          clear hsm HG HG2 hgood
          have FF := Lib.hid (C9.out.fin zeroPeer (A2 := none) (a2 := 0) (B2 := none) (b2 := 0) (Bs.nil _ _ _) (Ps.nil _))
          have JJ := Lib.hid FF.out.1.cells
          unfold fill3 zeroPeer at JJ
          dsimp only [List.length_nil] at JJ
          rcases hcs with h1 | ⟨h1, rfl⟩
          all_goals
            go_wp2_with fail
            obtain ⟨j0, j1, j2, -, -, -⟩ := JJ.out
            exact bodyPost_ret (v := .tuple #[.agg #[.int .i64 0, .slice none 0 0, .slice none 0 0], .int .i64 114]) (by simp [results, Tryz.results49, go_sem, j0, j1, j2]) rfl ⟨none, 0, none, 0, rfl, FF.out.2.1, FF.out.2.2.1, FF.out.2.2.2, Nw.none _, Nw.none _⟩
theorem refGetPeer_any (A B : Option Addr) (c d : Nat) (k v : List UInt8) (w : World) (ha : Bs w A c k) (hb : Bs w B d v) :
    Calls Tryz.prog 49 #[.agg #[.slice A k.length c, .slice B v.length d]] w (GotP w (peerGet k v)) := by
  by_cases h : k.length = 5 ∧ 33 ≤ v.length
  · exact refGetPeer_len A B c d k v w ha hb h.1 h.2
  · have h2 : k.length ≠ 5 ∨ v.length < 33 := by omega
    rw [peerGet_bad h2]
    exact refGetPeer_bad A B c d k v w ha hb h2
end Go.Proofs.YtafdhccdjbfepaaGreat.Peer
/- P15.3, plain: a peer's row is read back; what is read is put as the row. -/
namespace Go.Proofs.YtafdhccdjbfepaaGreat.Peer
open Go.RowKit Go.Proofs.YtafdhccdjbfepaaGreat.K Go.Proofs.YtafdhccdjbfepaaGreat.Help Go.Proofs.YtafdhccdjbfepaaGreat.Pfx
set_option linter.unusedVariables false

theorem pfxGet_put (x : PfxI) (hv : pvI x = true) (h1 : x.2.1 < 18446744073709551616) (h2 : x.2.2.1 < 18446744073709551616) (rest : List UInt8) :
    ∃ d, pfxGet (pfI x ++ rest) = (d, (pfI x).length, 0) ∧ toI d = x := by
  obtain ⟨fam, hi, lo, bits⟩ := x
  unfold pvI at hv
  dsimp only at hv h1 h2
  have hs := pvB_spec hv
  obtain ⟨ha, hb0, hb1, hf⟩ := hs
  have hp : pfI (fam, hi, lo, bits) = [UInt8.ofNat fam.toNat, UInt8.ofNat bits.toNat] ++ paBytes fam hi lo := by
    unfold pfI pfBytes; rw [if_pos hv]
  rw [hp]
  have hb2 : (UInt8.ofNat bits.toNat).toNat = bits.toNat := by simp; omega
  have hbb : ((bits.toNat : Nat) : Int) = bits := by omega
  rcases hf with rfl | rfl
  · have h4 : hi = 0 ∧ lo < 4294967296 := by
      rcases of_decide_eq_true ha with h | ⟨_, h, h'⟩
      · omega
      · exact ⟨h, h'⟩
    obtain ⟨rfl, hlo⟩ := h4
    have e : [UInt8.ofNat (4 : Int).toNat, UInt8.ofNat bits.toNat] ++ paBytes 4 0 lo ++ rest = UInt8.ofNat 4 :: UInt8.ofNat bits.toNat :: (be 4 lo ++ rest) := by simp [paBytes]
    have hl : ([UInt8.ofNat (4 : Int).toNat, UInt8.ofNat bits.toNat] ++ paBytes 4 0 lo).length = 6 := by simp [paBytes, be_len]
    rw [e, hl]
    have f0 : ((UInt8.ofNat 4 :: UInt8.ofNat bits.toNat :: (be 4 lo ++ rest)).getD 0 0).toNat = 4 := by simp
    have f1 : ((UInt8.ofNat 4 :: UInt8.ofNat bits.toNat :: (be 4 lo ++ rest)).getD 1 0).toNat = bits.toNat := by simpa using hb2
    have f2 : ((UInt8.ofNat 4 :: UInt8.ofNat bits.toNat :: (be 4 lo ++ rest)).drop 2).take 4 = be 4 lo := by
      simp only [List.drop_succ_cons, List.drop_zero]
      exact List.take_left' (be_len _ _)
    have f3 : (UInt8.ofNat 4 :: UInt8.ofNat bits.toNat :: (be 4 lo ++ rest)).length = 6 + rest.length := by simp [be_len]; omega
    have f4 : pw ((4 : Nat) : Int) / 8 = 4 := rfl
    unfold pfxGet
    rw [f0, f1, f3, f4, f2, val_be, Nat.mod_eq_of_lt (show lo < 256 ^ 4 by simpa using hlo)]
    rw [if_neg (by omega), if_neg (by omega), show lo / 18446744073709551616 = 0 by omega, show lo % 18446744073709551616 = lo by omega, hbb]
    have hv2 : pvB ((4 : Nat) : Int) 0 lo bits = true := hv
    rw [if_pos hv2]
    exact ⟨_, rfl, by simp [toI, hbb]⟩
  · have e : [UInt8.ofNat (6 : Int).toNat, UInt8.ofNat bits.toNat] ++ paBytes 6 hi lo ++ rest = UInt8.ofNat 6 :: UInt8.ofNat bits.toNat :: ((be 8 hi ++ be 8 lo) ++ rest) := by simp [paBytes]
    have hl : ([UInt8.ofNat (6 : Int).toNat, UInt8.ofNat bits.toNat] ++ paBytes 6 hi lo).length = 18 := by simp [paBytes, be_len]
    rw [e, hl]
    have f0 : ((UInt8.ofNat 6 :: UInt8.ofNat bits.toNat :: ((be 8 hi ++ be 8 lo) ++ rest)).getD 0 0).toNat = 6 := by simp
    have f1 : ((UInt8.ofNat 6 :: UInt8.ofNat bits.toNat :: ((be 8 hi ++ be 8 lo) ++ rest)).getD 1 0).toNat = bits.toNat := by simpa using hb2
    have f2 : ((UInt8.ofNat 6 :: UInt8.ofNat bits.toNat :: ((be 8 hi ++ be 8 lo) ++ rest)).drop 2).take 16 = be 8 hi ++ be 8 lo := by
      simp only [List.drop_succ_cons, List.drop_zero]
      exact List.take_left' (by simp [be_len])
    have f3 : (UInt8.ofNat 6 :: UInt8.ofNat bits.toNat :: ((be 8 hi ++ be 8 lo) ++ rest)).length = 18 + rest.length := by simp [be_len]; omega
    have f4 : pw ((6 : Nat) : Int) / 8 = 16 := rfl
    have f5 : val (be 8 hi ++ be 8 lo) = hi * 18446744073709551616 + lo := by
      rw [val_app2, val_be, val_be, be_len, show (256 : Nat) ^ 8 = 18446744073709551616 from rfl, Nat.mod_eq_of_lt h1, Nat.mod_eq_of_lt h2]
    unfold pfxGet
    rw [f0, f1, f3, f4, f2, f5]
    rw [if_neg (by omega), if_neg (by omega), show (hi * 18446744073709551616 + lo) / 18446744073709551616 = hi by omega, show (hi * 18446744073709551616 + lo) % 18446744073709551616 = lo by omega, hbb]
    have hv2 : pvB ((6 : Nat) : Int) hi lo bits = true := hv
    rw [if_pos hv2]
    exact ⟨_, rfl, by simp [toI, hbb]⟩
theorem getN_flat (ps : List PfxI) (rest : List UInt8) (h : ∀ x, x ∈ ps → pvI x = true ∧ x.2.1 < 18446744073709551616 ∧ x.2.2.1 < 18446744073709551616) :
    ∀ n, n ≤ ps.length → getN n (ps.flatMap pfI ++ rest) = some (ps.take n, (ps.drop n).flatMap pfI ++ rest) := by
  intro n
  induction n with
  | zero => intro _; simp [getN]
  | succ n ih =>
    intro hn
    have hx : ps.drop n = ps[n] :: ps.drop (n + 1) := List.drop_eq_getElem_cons (by omega)
    have hm := h ps[n] (List.getElem_mem (by omega))
    obtain ⟨d, hd, hi⟩ := pfxGet_put ps[n] hm.1 hm.2.1 hm.2.2 ((ps.drop (n + 1)).flatMap pfI ++ rest)
    have hg : pfxGet ((ps.drop n).flatMap pfI ++ rest) = (d, (pfI ps[n]).length, 0) := by
      rw [hx, List.flatMap_cons, List.append_assoc]; exact hd
    rw [getN_step (ih (by omega)) hg, hi, hx, List.flatMap_cons, List.append_assoc, List.drop_left, List.take_succ_eq_append_getElem (by omega)]
theorem okAt_pv {l : List PfxI} (h : okTo l l.length) : ∀ x, x ∈ l → pvI x = true := by
  intro x hx
  obtain ⟨i, hi, rfl⟩ := List.mem_iff_getElem.1 hx
  have := h i hi
  unfold okAt at this
  rw [List.getD_eq_getElem?_getD, List.getElem?_eq_getElem hi] at this
  simp only [Bool.and_eq_true] at this
  exact this.1
/-- P15.3 of peers -/
theorem peerGet_put {d : PeerD} (hb : ∀ x, x ∈ d.ps → x.2.1 < 18446744073709551616 ∧ x.2.2.1 < 18446744073709551616) (h : peerOk d) : peerGet (putPeer d).1 (putPeer d).2.1 = (d, 0) := by
  have hp := putPeer_ok h
  obtain ⟨⟨h1, h2, h3, h4⟩, hto⟩ := h
  have hr : peerRd (putPeer d).1 (putPeer d).2.1 = d := by
    rw [hp]
    dsimp only
    have hb1 : be 1 d.ps.length = [UInt8.ofNat d.ps.length] := by simp [be]
    rw [peerRd_len (by simp [be_len]) (by simp [be_len]; omega)]
    have c1 : cutN ([0x50] ++ be 4 d.link.toNat) 1 4 = be 4 d.link.toNat := by
      have := cut_mid [0x50] (be 4 d.link.toNat) [] (p := 1) (n := 4) rfl (be_len _ _)
      rwa [List.append_nil] at this
    have c2 : (d.key ++ be 1 d.ps.length ++ d.ps.flatMap pfI).take 32 = d.key := by
      rw [List.append_assoc]; exact List.take_left' h3
    have c3 : ((d.key ++ be 1 d.ps.length ++ d.ps.flatMap pfI).getD 32 0).toNat = d.ps.length := by
      rw [hb1, List.append_assoc, List.getD_eq_getElem?_getD, List.getElem?_append_right (by omega), h3]
      simp
      omega
    have c4 : (d.key ++ be 1 d.ps.length ++ d.ps.flatMap pfI).drop 33 = d.ps.flatMap pfI := List.drop_left' (by simp [be_len]; omega)
    rw [c1, c2, c3, c4, val_be, Nat.mod_eq_of_lt (by simp; omega)]
    unfold peerOf
    have hg := getN_flat d.ps [] (fun x hx => ⟨okAt_pv hto x hx, hb x hx⟩) d.ps.length (Nat.le_refl _)
    rw [List.append_nil] at hg
    rw [hg]
    simp only [List.take_length]
    obtain ⟨link, key, ps⟩ := d
    dsimp only at *
    rw [show ((link.toNat : Nat) : Int) = link by omega]
  unfold peerGet
  rw [hr]
  exact if_pos ⟨by rw [hp], rfl, rfl⟩
theorem peerGet_back {k v : List UInt8} {x : PeerD} (h : peerGet k v = (x, 0)) : putPeer x = (k, v, 0) := by
  unfold peerGet at h
  split at h
  · rename_i hc
    simp only [Prod.mk.injEq, and_true] at h
    rw [← h]
    exact Prod.ext hc.2.1 (Prod.ext hc.2.2 hc.1)
  · simp at h
theorem laneGet_back {k v : List UInt8} {x : LaneD} (h : laneGet k v = (x, 0)) : putLane x = (k, v, 0) := by
  unfold laneGet at h
  split at h
  · rename_i hc
    simp only [Prod.mk.injEq, and_true] at h
    rw [← h]
    exact Prod.ext hc.2.1 (Prod.ext hc.2.2 hc.1)
  · simp at h
end Go.Proofs.YtafdhccdjbfepaaGreat.Peer
/- Lists of structs in memory, read and of the call's own: rows, peers, lanes. -/
namespace Go.Proofs.YtafdhccdjbfepaaGreat.Lst
open Go.RowKit Go.Proofs.YtafdhccdjbfepaaGreat.K Go.Proofs.YtafdhccdjbfepaaGreat.Help Go.Proofs.YtafdhccdjbfepaaGreat.Pfx Go.Proofs.YtafdhccdjbfepaaGreat.Peer
set_option linter.unusedVariables false

/-- a slice of bytes that lies in no block of N -/
def BsN (w : World) (N : Nat → Prop) (A : Option Addr) (c : Nat) (l : List UInt8) : Prop := Bs w A c l ∧ (l ≠ [] → ∀ ad, A = some ad → ¬ N ad.block)
section
variable {w w' : World} {N N' : Nat → Prop} {A : Option Addr} {c : Nat} {l : List UInt8}
theorem Bs.blk (h : Bs w A c l) (hl : l ≠ []) (ad : Addr) (e : A = some ad) : ad.block < w.heap.size := by
  obtain ⟨ad', e', hlt, _⟩ := h.at_ 0 (List.length_pos_iff.2 hl)
  rw [e] at e'
  cases e'
  exact hlt
theorem BsN.below (h : BsN w N A c l) (hb : Below w.heap.size w w') : BsN w' N A c l := ⟨h.1.below hb, h.2⟩
theorem BsN.only {T : Nat → Prop} (h : BsN w N A c l) (k : Only w w' T) (hT : ∀ i, i < w.heap.size → T i → N i) : BsN w' N A c l := by
  refine ⟨⟨h.1.le, h.1.max, fun i hi => ?_⟩, h.2⟩
  obtain ⟨ad, e, hlt, hc⟩ := h.1.at_ i hi
  have hl : l ≠ [] := by intro e; rw [e] at hi; simp at hi
  have hb : (ad.add i).block = ad.block := addr_add_block ad i
  exact ⟨ad, e, Nat.lt_of_lt_of_le hlt k.size, (cell_blk (k.block _ (by rw [hb]; exact hlt) (fun ht => h.2 hl ad e (hT _ hlt (by rw [← hb]; exact ht))))).trans hc⟩
theorem BsN.reno (h : BsN w N A c l) (hN : ∀ i, N' i → N i ∨ w.heap.size ≤ i) : BsN w N' A c l :=
  ⟨h.1, fun hl ad e hn => by
    rcases hN _ hn with h1 | h1
    · exact h.2 hl ad e h1
    · have := Bs.blk h.1 hl ad e; omega⟩
theorem Bs.bsn (h : Bs w A c l) : BsN w (fun _ => False) A c l := ⟨h, fun _ _ _ h => h⟩
theorem Bs.fresh {w0 : World} (h : Bs w A c l) (hn : Nw w0 A) (hN : ∀ i, N i → i < w0.heap.size) : BsN w N A c l := ⟨h, fun _ ad e hx => by have := hn ad e; have := hN _ hx; omega⟩
theorem BsN.drewN (h : BsN w N A c l) (n : Nat) : BsN (w.drewN n) N A c l := ⟨h.1.drewN n, h.2⟩
end
def PsN (w : World) (N : Nat → Prop) (A : Option Addr) (c : Nat) (l : List PfxI) : Prop := Ps w A c l ∧ (l ≠ [] → ∀ ad, A = some ad → ¬ N ad.block)
section
variable {w w' : World} {N N' : Nat → Prop} {A : Option Addr} {c : Nat} {l : List PfxI}
theorem Ps.blk (h : Ps w A c l) (hl : l ≠ []) (ad : Addr) (e : A = some ad) : ad.block < w.heap.size := by
  obtain ⟨bk, off, e', hlt, _⟩ := h.at_ 0 (List.length_pos_iff.2 hl)
  rw [e] at e'
  cases e'
  exact hlt
theorem PsN.below (h : PsN w N A c l) (hb : Below w.heap.size w w') : PsN w' N A c l := ⟨h.1.below hb, h.2⟩
theorem PsN.only {T : Nat → Prop} (h : PsN w N A c l) (k : Only w w' T) (hT : ∀ i, i < w.heap.size → T i → N i) : PsN w' N A c l := by
  by_cases hl : l = []
  · subst hl; exact ⟨⟨h.1.le, h.1.max, h.1.lt, fun i hi => by simp at hi⟩, h.2⟩
  · refine ⟨h.1.only k (fun bk off e ht => ?_), h.2⟩
    exact h.2 hl _ e (hT _ (Ps.blk h.1 hl _ e) ht)
theorem PsN.reno (h : PsN w N A c l) (hN : ∀ i, N' i → N i ∨ w.heap.size ≤ i) : PsN w N' A c l :=
  ⟨h.1, fun hl ad e hn => by
    rcases hN _ hn with h1 | h1
    · exact h.2 hl ad e h1
    · have := Ps.blk h.1 hl ad e; omega⟩
theorem Ps.psn (h : Ps w A c l) : PsN w (fun _ => False) A c l := ⟨h, fun _ _ _ h => h⟩
theorem Ps.fresh {w0 : World} (h : Ps w A c l) (hn : Nw w0 A) (hN : ∀ i, N i → i < w0.heap.size) : PsN w N A c l := ⟨h, fun _ ad e hx => by have := hn ad e; have := hN _ hx; omega⟩
theorem PsN.drewN (h : PsN w N A c l) (n : Nat) : PsN (w.drewN n) N A c l := ⟨h.1.drewN n, h.2⟩
end
/-- how an element of a list reads: its cells, and what they lead to, which lies in no block of N -/
structure Elem (α : Type) where
  sz : Nat
  R : World → (Nat → Prop) → List Value → α → Prop
  len : ∀ {w N raw x}, R w N raw x → raw.length = sz
  one : ∀ {w N raw x}, R w N raw x → ∀ u, u ∈ raw → u.oneCell' = true
  below : ∀ {w w' N raw x}, R w N raw x → Below w.heap.size w w' → R w' N raw x
  only : ∀ {w w' N raw x} {T : Nat → Prop}, R w N raw x → Only w w' T → (∀ i, i < w.heap.size → T i → N i) → R w' N raw x
  reno : ∀ {w N N' raw x}, R w N raw x → (∀ i, N' i → N i ∨ w.heap.size ≤ i) → R w N' raw x
/-- a list as it is read -/
structure Lst {α : Type} (E : Elem α) (w : World) (N : Nat → Prop) (A : Option Addr) (c : Nat) (l : List α) : Prop where
  le : l.length ≤ c
  max : c ≤ 9223372036854775807
  at_ : ∀ (i : Nat) (x : α), l[i]? = some x → ∃ bk off raw, A = some ⟨bk, off, none⟩ ∧ bk < w.heap.size ∧ ¬ N bk ∧ (∀ j, j < E.sz → w.cell? ⟨bk, off + i * E.sz + j, none⟩ = raw[j]?) ∧ E.R w N raw x
section
variable {α : Type} {E : Elem α} {w w' : World} {N N' : Nat → Prop} {A : Option Addr} {c : Nat} {l : List α}
theorem Lst.nil (w : World) (N : Nat → Prop) : Lst E w N none 0 [] := ⟨by simp, by simp, fun i x h => by simp at h⟩
theorem Lst.below (h : Lst E w N A c l) (hb : Below w.heap.size w w') : Lst E w' N A c l :=
  ⟨h.le, h.max, fun i x hx => by
    obtain ⟨bk, off, raw, e, hlt, hn, hc, hr⟩ := h.at_ i x hx
    exact ⟨bk, off, raw, e, Nat.lt_of_lt_of_le hlt hb.size, hn, fun j hj => (hb.cell (p := ⟨bk, _, none⟩) hlt).trans (hc j hj), E.below hr hb⟩⟩
theorem Lst.only {T : Nat → Prop} (h : Lst E w N A c l) (k : Only w w' T) (hT : ∀ i, i < w.heap.size → T i → N i) : Lst E w' N A c l :=
  ⟨h.le, h.max, fun i x hx => by
    obtain ⟨bk, off, raw, e, hlt, hn, hc, hr⟩ := h.at_ i x hx
    exact ⟨bk, off, raw, e, Nat.lt_of_lt_of_le hlt k.size, hn, fun j hj => (cell_blk (ad := ⟨bk, _, none⟩) (k.block bk hlt (fun ht => hn (hT _ hlt ht)))).trans (hc j hj), E.only hr k hT⟩⟩
theorem Lst.reno (h : Lst E w N A c l) (hN : ∀ i, N' i → N i ∨ w.heap.size ≤ i) : Lst E w N' A c l :=
  ⟨h.le, h.max, fun i x hx => by
    obtain ⟨bk, off, raw, e, hlt, hn, hc, hr⟩ := h.at_ i x hx
    exact ⟨bk, off, raw, e, hlt, fun hx => (hN _ hx).elim hn (fun h2 => by omega), hc, E.reno hr hN⟩⟩
theorem Lst.drewN (h : Lst E w N A c l) (n : Nat) : Lst E (w.drewN n) N A c l := h.below (below_drewN (Below.refl _ _) n)
theorem Lst.free (h : Lst E w N A c l) : Lst E w (fun _ => False) A c l := h.reno (fun _ h => h.elim)
end
/-- a list of the call's own, from block B on; its elements lie neither in its row nor in a block of N -/
def OwnL {α : Type} (E : Elem α) (t : TypeId) (w : World) (N : Nat → Prop) (B : Nat) (v : Value) (l : List α) : Prop :=
  ∃ raws : List (List Value), raws.length = l.length ∧ w.ownsRow B t E.sz v l.length raws.flatten ∧ l.length ≤ 1000000000000 ∧ ∀ (i : Nat) (x : α) (raw : List Value), l[i]? = some x → raws[i]? = some raw → E.R w (fun k => N k ∨ v.ownBlock = some k) raw x
theorem flat_at {sz : Nat} {raws : List (List Value)} (h : ∀ r, r ∈ raws → r.length = sz) : ∀ (i j : Nat) (r : List Value), raws[i]? = some r → j < sz → raws.flatten[i * sz + j]? = r[j]? := by
  induction raws with
  | nil => intro i j r hi; simp at hi
  | cons x xs ih =>
    intro i j r hi hj
    have hx : x.length = sz := h x (by simp)
    rw [List.flatten_cons]
    match i with
    | 0 =>
      simp only [List.getElem?_cons_zero, Option.some.injEq] at hi
      subst hi
      rw [List.getElem?_append_left (by omega)]
      simp
    | i + 1 =>
      rw [List.getElem?_append_right (by rw [hx, Nat.succ_mul]; omega), hx, show (i + 1) * sz + j - sz = i * sz + j by rw [Nat.succ_mul]; omega]
      exact ih (fun r hr => h r (by simp [hr])) i j r (by simpa using hi) hj
section
variable {α : Type} {E : Elem α} {t : TypeId} {w w' : World} {N N' : Nat → Prop} {B : Nat} {v : Value} {l : List α}
theorem OwnL.nil (E : Elem α) (t : TypeId) (w : World) (N : Nat → Prop) (B : Nat) : OwnL E t w N B (.slice none 0 0) [] := ⟨[], rfl, ⟨by simp, .inl ⟨rfl, rfl⟩⟩, by simp, fun i x raw h => by simp at h⟩
theorem OwnL.base_le (h : OwnL E t w N B v l) {i : Nat} (hi : v.ownBlock = some i) : B ≤ i := by
  obtain ⟨raws, _, h, _⟩ := h
  rcases h.2 with ⟨rfl, _⟩ | ⟨g, cap, cur, rfl, hb, _⟩
  · simp [Value.ownBlock] at hi
  · have : g = i := by simpa [Value.ownBlock] using hi
    omega
theorem OwnL.lt (h : OwnL E t w N B v l) {i : Nat} (hi : v.ownBlock = some i) : i < w.heap.size := by
  obtain ⟨raws, _, h, _⟩ := h
  rcases h.2 with ⟨rfl, _⟩ | ⟨g, cap, cur, rfl, hb, hh, _⟩
  · simp [Value.ownBlock] at hi
  · have : g = i := by simpa [Value.ownBlock] using hi
    subst this
    exact blk_lt hh
theorem OwnL.blk (h : OwnL E t w N B v l) {i : Nat} (hi : v.ownBlock = some i) : ∃ cs, w.heap[i]? = some (.cells cs t (0, 0)) := by
  obtain ⟨raws, _, h, _⟩ := h
  rcases h.2 with ⟨rfl, _⟩ | ⟨g, cap, cur, rfl, hb, hh, _⟩
  · simp [Value.ownBlock] at hi
  · have : g = i := by simpa [Value.ownBlock] using hi
    subst this
    exact ⟨_, hh⟩
theorem row_keep {B n sz : Nat} {xs : List Value} {T : Nat → Prop} (h : w.ownsRow B t sz v n xs) (k : Only w w' T) (hT : ∀ i, v.ownBlock = some i → ¬ T i) : w'.ownsRow B t sz v n xs := by
  refine ⟨h.1, ?_⟩
  rcases h.2 with h2 | ⟨g, cap, cur, hv, hg, hh, r⟩
  · exact .inl h2
  · exact .inr ⟨g, cap, cur, hv, hg, k.blk hh (hT g (by rw [hv]; rfl)), r⟩
theorem OwnL.only {T : Nat → Prop} (h : OwnL E t w N B v l) (k : Only w w' T) (h1 : ∀ i, v.ownBlock = some i → ¬ T i) (h2 : ∀ i, i < w.heap.size → T i → N i) : OwnL E t w' N B v l := by
  obtain ⟨raws, hl, ho, hm, hr⟩ := h
  exact ⟨raws, hl, row_keep ho k h1, hm, fun i x raw hx hw => E.only (hr i x raw hx hw) k (fun i hi ht => .inl (h2 i hi ht))⟩
theorem OwnL.below (h : OwnL E t w N B v l) (hb : Below w.heap.size w w') : OwnL E t w' N B v l := by
  have k := Only.of_below hb (fun _ => False)
  exact h.only k (fun _ _ h => h) (fun _ _ h => h.elim)
theorem OwnL.drewN (h : OwnL E t w N B v l) (n : Nat) : OwnL E t (w.drewN n) N B v l := h.below (below_drewN (Below.refl _ _) n)
theorem OwnL.reno (h : OwnL E t w N B v l) (hN : ∀ i, N' i → N i ∨ w.heap.size ≤ i) : OwnL E t w N' B v l := by
  obtain ⟨raws, hl, ho, hm, hr⟩ := h
  exact ⟨raws, hl, ho, hm, fun i x raw hx hw => E.reno (hr i x raw hx hw) (fun i hi => hi.elim (fun h => (hN i h).imp .inl id) (fun h => .inl (.inr h)))⟩
theorem OwnL.slice (h : OwnL E t w N B v l) : ∃ A c, v = .slice A l.length c := by
  obtain ⟨raws, hl, ho, _⟩ := h
  rcases ho.2 with ⟨rfl, h0⟩ | ⟨g, cap, cur, rfl, _⟩
  · exact ⟨none, 0, by rw [h0]⟩
  · exact ⟨_, cap, rfl⟩
theorem OwnL.nw {w0 : World} {A : Option Addr} {n c : Nat} (h : OwnL E t w N B (.slice A n c) l) (hb : w0.heap.size ≤ B) : Nw w0 A := fun ad e => by
  subst e
  obtain ⟨raws, _, h, _⟩ := h
  rcases h.2 with ⟨h1, _⟩ | ⟨g, cap, cur, h1, h2, _⟩
  · cases h1
  · injection h1 with h1; injection h1 with h1; subst h1; exact Nat.le_trans hb h2
/-- an own list is a list -/
theorem OwnL.lst (h : OwnL E t w N B v l) (hN : ∀ i, v.ownBlock = some i → ¬ N i) : ∃ A c, v = .slice A l.length c ∧ Lst E w N A c l := by
  obtain ⟨raws, hl, ho, hm, hr⟩ := h
  have hsz : ∀ r, r ∈ raws → r.length = E.sz := fun r hx => by
    obtain ⟨i, hi, rfl⟩ := List.mem_iff_getElem.1 hx
    exact E.len (hr i (l[i]'(by omega)) raws[i] (List.getElem?_eq_getElem _) (List.getElem?_eq_getElem hi))
  have hc := fun (g : Nat) (hg : v.ownBlock = some g) => ho.cells hg
  rcases ho.2 with ⟨rfl, h0⟩ | ⟨g, cap, cur, rfl, hb, hh, hn, hmx, hs, ht⟩
  · have : l = [] := List.eq_nil_of_length_eq_zero h0
    subst this
    exact ⟨none, 0, rfl, Lst.nil _ _⟩
  · refine ⟨_, cap, rfl, hn, by simpa [maxLen] using hmx, fun i x hx => ?_⟩
    have hi : i < raws.length := by rw [hl]; exact (List.getElem?_eq_some_iff.1 hx).1
    refine ⟨g, 0, raws[i], rfl, blk_lt hh, hN g rfl, fun j hj => ?_, E.reno (hr i x raws[i] hx (List.getElem?_eq_getElem hi)) (fun k hk => .inl (.inl hk))⟩
    have hf := flat_at hsz i j raws[i] (List.getElem?_eq_getElem hi) hj
    have hrl : raws[i].length = E.sz := hsz _ (List.getElem_mem hi)
    have e : (⟨g, 0, none⟩ : Addr).add (i * E.sz + j) = ⟨g, i * E.sz + j, none⟩ := addr_add_plain _ _
    have hcc := hc g rfl (i * E.sz + j) (raws[i][j]'(by omega)) (by rw [hf]; exact List.getElem?_eq_getElem _)
    rw [e] at hcc
    rw [Nat.zero_add, hcc, List.getElem?_eq_getElem (by omega)]
end
section
variable {α : Type} {E : Elem α} {P : Program} {ops : Array Oper} {rest : List Oper} {o : Oper} {a : Act} {Q : Exit → Act → World → Prop}
/-- append(v, x): x laid at block g -/
theorem push {B : Nat} {W : World} {N : Nat → Prop} (t ts : TypeId) (z : Value) (bytes : Nat) (hgd : o.guard = none) (s xo : Operand)
    (ho : o.op = .call { callee := .builtin .append, args := #[s, xo], argTypes := #[ts, ts] })
    (ht : P.underlying ts = some (.slice t)) (hinfo : (P.info? t).map (fun i => (i.zero, i.size, i.bytes)) = some (some z, E.sz, bytes)) (hz : z.cells.size = E.sz) (hs0 : 0 < E.sz) (hb1 : 0 < bytes) (hb2 : bytes ≤ 128)
    (v : Value) (l : List α) (x : α) (raw : List Value) (g mc : Nat) (hs : a.eval s = v) (hx : a.eval xo = .slice (some ⟨g, 0, none⟩) 1 mc)
    (HO : OwnL E t W N B v l) (HX : W.heap[g]? = some (.cells raw.toArray t (0, 0))) (hr : E.R W (fun k => N k ∨ v.ownBlock = some k) raw x) (hBW : B ≤ W.heap.size) (hl : l.length ≤ 100000000000)
    (h : ∀ A' c' w1, OwnL E t w1 N B (.slice A' (l.length + 1) c') (l ++ [x]) → Only W w1 (fun k => v.ownBlock = some k) → (∀ k, (Value.slice A' (l.length + 1) c').ownBlock = some k → v.ownBlock = some k ∨ W.heap.size ≤ k) → wpList P ops Q rest (a.put o.dst (.slice A' (l.length + 1) c')) w1)
    (hNn : ∀ k, N k → k < W.heap.size) :
    wpList P ops Q (o :: rest) a W := by
  obtain ⟨raws, hrl, hown, hm, hR⟩ := HO
  obtain ⟨i0, hi, hzz⟩ := Option.map_eq_some_iff.1 hinfo
  simp only [Prod.mk.injEq] at hzz
  obtain ⟨hz0, hz1, hz2⟩ := hzz
  have hraw := E.len hr
  have hbb : (l.length + 1) * bytes ≤ 140737488355328 := Nat.le_trans (Nat.mul_le_mul (show l.length + 1 ≤ 1000000000000 by omega) hb2) (by decide)
  refine wpList_append_own_at W hgd s xo ts ho B t i0 z E.sz bytes ht hi hz0 hz1 hz2 hz hs0 v l.length raws.flatten hs hown ⟨g, 0, none⟩ 1 mc raw hx (by rw [hraw]; omega)
    ?_ (E.one hr) (by simp only [maxLen]; omega) hbb hBW ?_
  · intro j u hu
    rw [addr_add_plain]
    exact (blk_cell HX j).trans (by simpa using hu)
  · intro v1 w1 hown1 hg _ hat
    have k : Only W w1 (fun k => v.ownBlock = some k) := (Only.refl W (fun k => v.ownBlock = some k)).grown hg (fun k hk => .inl hk)
    have hat2 : ∀ k, v1.ownBlock = some k → v.ownBlock = some k ∨ W.heap.size ≤ k := fun k hk => by
      rcases hat with hat | hat
      · exact .inl (by rw [← hat]; exact hk)
      · rw [hat] at hk; exact .inr (by injection hk with hk; omega)
    have hO : OwnL E t w1 N B v1 (l ++ [x]) := by
      refine ⟨raws ++ [raw], by simp [hrl], ?_, by simp; omega, fun i y r hy hw => ?_⟩
      · rw [List.flatten_append, List.flatten_cons, List.flatten_nil, List.append_nil]; simpa using hown1
      · have hT : E.R W (fun k => N k ∨ v.ownBlock = some k) r y := by
          by_cases hii : i < l.length
          · exact hR i y r (by rw [List.getElem?_append_left hii] at hy; exact hy) (by rw [List.getElem?_append_left (by omega)] at hw; exact hw)
          · have e1 : i = l.length := by
              have := (List.getElem?_eq_some_iff.1 hy).1
              simp at this
              omega
            subst e1
            rw [List.getElem?_append_right (by omega), Nat.sub_self] at hy
            rw [List.getElem?_append_right (by omega), hrl, Nat.sub_self] at hw
            simp only [List.getElem?_cons_zero, Option.some.injEq] at hy hw
            subst hy hw
            exact hr
        have hT2 : E.R W (fun k => (N k ∨ v.ownBlock = some k) ∨ v1.ownBlock = some k) r y := E.reno hT (fun k hk => hk.elim .inl (fun h => (hat2 k h).imp .inr id))
        exact E.reno (E.only hT2 k (fun i _ hi => .inl (.inr hi))) (fun k hk => .inl (hk.elim (fun h => .inl (.inl h)) .inr))
    obtain ⟨A', c', e⟩ := OwnL.slice hO
    rw [List.length_append] at e
    subst e
    exact h A' c' w1 hO k hat2
end
end Go.Proofs.YtafdhccdjbfepaaGreat.Lst
/- Rows, peers and lanes as elements of lists; such lists as arguments. -/
namespace Go.Proofs.YtafdhccdjbfepaaGreat.Lst
open Go.ChangeShapes Go.WideShapes Go.ChangeAt Go.RowKit Go.Proofs.YtafdhccdjbfepaaGreat.K Go.Proofs.YtafdhccdjbfepaaGreat.Help Go.Proofs.YtafdhccdjbfepaaGreat.Pfx Go.Proofs.YtafdhccdjbfepaaGreat.Peer
set_option linter.unusedVariables false

abbrev RowD := List UInt8 × List UInt8
def RowR (w : World) (N : Nat → Prop) (raw : List Value) (x : RowD) : Prop := ∃ A a B b, raw = [.slice A x.1.length a, .slice B x.2.length b] ∧ BsN w N A a x.1 ∧ BsN w N B b x.2
def RowE : Elem RowD where
  sz := 2
  R := RowR
  len := fun ⟨A, a, B, b, h, _⟩ => by rw [h]; rfl
  one := fun ⟨A, a, B, b, h, _⟩ u hu => by
    rw [h] at hu
    simp only [List.mem_cons, List.not_mem_nil, or_false] at hu
    rcases hu with rfl | rfl <;> rfl
  below := fun ⟨A, a, B, b, h, h1, h2⟩ hb => ⟨A, a, B, b, h, h1.below hb, h2.below hb⟩
  only := fun ⟨A, a, B, b, h, h1, h2⟩ k hT => ⟨A, a, B, b, h, h1.only k hT, h2.only k hT⟩
  reno := fun ⟨A, a, B, b, h, h1, h2⟩ hN => ⟨A, a, B, b, h, h1.reno hN, h2.reno hN⟩
def PeerRr (w : World) (N : Nat → Prop) (raw : List Value) (x : PeerD) : Prop := ∃ A a B b, raw = [.int .i64 x.link, .slice A x.key.length a, .slice B x.ps.length b] ∧ BsN w N A a x.key ∧ PsN w N B b x.ps
def PeerE : Elem PeerD where
  sz := 3
  R := PeerRr
  len := fun ⟨A, a, B, b, h, _⟩ => by rw [h]; rfl
  one := fun ⟨A, a, B, b, h, _⟩ u hu => by
    rw [h] at hu
    simp only [List.mem_cons, List.not_mem_nil, or_false] at hu
    rcases hu with rfl | rfl | rfl <;> rfl
  below := fun ⟨A, a, B, b, h, h1, h2⟩ hb => ⟨A, a, B, b, h, h1.below hb, h2.below hb⟩
  only := fun ⟨A, a, B, b, h, h1, h2⟩ k hT => ⟨A, a, B, b, h, h1.only k hT, h2.only k hT⟩
  reno := fun ⟨A, a, B, b, h, h1, h2⟩ hN => ⟨A, a, B, b, h, h1.reno hN, h2.reno hN⟩
def LaneRr (w : World) (N : Nat → Prop) (raw : List Value) (d : LaneD) : Prop := ∃ A a, raw = [.slice A d.key.length a, .int .i64 d.side, .int .i64 d.cur, .int .i64 d.next, .int .u64 (d.sc : Int), .int .u64 (d.ceil : Int), .int .i64 d.sec, .int .i64 d.nano] ∧ BsN w N A a d.key ∧ LaneB d
def LaneE : Elem LaneD where
  sz := 8
  R := LaneRr
  len := fun ⟨A, a, h, _⟩ => by rw [h]; rfl
  one := fun ⟨A, a, h, _⟩ u hu => by
    rw [h] at hu
    simp only [List.mem_cons, List.not_mem_nil, or_false] at hu
    rcases hu with rfl | rfl | rfl | rfl | rfl | rfl | rfl | rfl <;> rfl
  below := fun ⟨A, a, h, h1, h2⟩ hb => ⟨A, a, h, h1.below hb, h2⟩
  only := fun ⟨A, a, h, h1, h2⟩ k hT => ⟨A, a, h, h1.only k hT, h2⟩
  reno := fun ⟨A, a, h, h1, h2⟩ hN => ⟨A, a, h, h1.reno hN, h2⟩
section
variable {w : World} {N : Nat → Prop} {A : Option Addr} {c : Nat}
/-- row i of a list -/
theorem Lst.row {l : List RowD} (h : Lst RowE w N A c l) (i : Nat) (x : RowD) (hx : l[i]? = some x) :
    ∃ bk off A1 a1 B1 b1, A = some ⟨bk, off, none⟩ ∧ bk < w.heap.size ∧ w.cell? ⟨bk, off + i * 2, none⟩ = some (.slice A1 x.1.length a1) ∧ w.cell? ⟨bk, off + i * 2 + 1, none⟩ = some (.slice B1 x.2.length b1) ∧ BsN w N A1 a1 x.1 ∧ BsN w N B1 b1 x.2 := by
  obtain ⟨bk, off, raw, e, hlt, _, hc, A1, a1, B1, b1, hr, h1, h2⟩ := h.at_ i x hx
  subst hr
  exact ⟨bk, off, A1, a1, B1, b1, e, hlt, hc 0 (by decide), hc 1 (by decide), h1, h2⟩
theorem Lst.peer {l : List PeerD} (h : Lst PeerE w N A c l) (i : Nat) (x : PeerD) (hx : l[i]? = some x) :
    ∃ bk off A1 a1 B1 b1, A = some ⟨bk, off, none⟩ ∧ bk < w.heap.size ∧ w.cell? ⟨bk, off + i * 3, none⟩ = some (.int .i64 x.link) ∧ w.cell? ⟨bk, off + i * 3 + 1, none⟩ = some (.slice A1 x.key.length a1) ∧ w.cell? ⟨bk, off + i * 3 + 2, none⟩ = some (.slice B1 x.ps.length b1)
      ∧ BsN w N A1 a1 x.key ∧ PsN w N B1 b1 x.ps := by
  obtain ⟨bk, off, raw, e, hlt, _, hc, A1, a1, B1, b1, hr, h1, h2⟩ := h.at_ i x hx
  subst hr
  exact ⟨bk, off, A1, a1, B1, b1, e, hlt, hc 0 (by decide), hc 1 (by decide), hc 2 (by decide), h1, h2⟩
theorem Lst.lane {l : List LaneD} (h : Lst LaneE w N A c l) (i : Nat) (x : LaneD) (hx : l[i]? = some x) :
    ∃ bk off A1 a1, A = some ⟨bk, off, none⟩ ∧ bk < w.heap.size ∧ w.cell? ⟨bk, off + i * 8, none⟩ = some (.slice A1 x.key.length a1) ∧ w.cell? ⟨bk, off + i * 8 + 1, none⟩ = some (.int .i64 x.side) ∧ w.cell? ⟨bk, off + i * 8 + 2, none⟩ = some (.int .i64 x.cur)
      ∧ w.cell? ⟨bk, off + i * 8 + 3, none⟩ = some (.int .i64 x.next) ∧ w.cell? ⟨bk, off + i * 8 + 4, none⟩ = some (.int .u64 (x.sc : Int)) ∧ w.cell? ⟨bk, off + i * 8 + 5, none⟩ = some (.int .u64 (x.ceil : Int))
      ∧ w.cell? ⟨bk, off + i * 8 + 6, none⟩ = some (.int .i64 x.sec) ∧ w.cell? ⟨bk, off + i * 8 + 7, none⟩ = some (.int .i64 x.nano) ∧ BsN w N A1 a1 x.key ∧ LaneB x := by
  obtain ⟨bk, off, raw, e, hlt, _, hc, A1, a1, hr, h1, h2⟩ := h.at_ i x hx
  subst hr
  exact ⟨bk, off, A1, a1, e, hlt, hc 0 (by decide), hc 1 (by decide), hc 2 (by decide), hc 3 (by decide), hc 4 (by decide), hc 5 (by decide), hc 6 (by decide), hc 7 (by decide), h1, h2⟩
end
theorem info_row : (Tryz.prog.info? 47).map (fun i => (i.zero, i.size, i.bytes)) = some (some (.agg #[.slice none 0 0, .slice none 0 0]), 2, 48) := by kernel_rfl
theorem info_peer : (Tryz.prog.info? 36).map (fun i => (i.zero, i.size, i.bytes)) = some (some (.agg #[.int .i64 0, .slice none 0 0, .slice none 0 0]), 3, 56) := by kernel_rfl
theorem info_lane : (Tryz.prog.info? 43).map (fun i => (i.zero, i.size, i.bytes)) = some (some (.agg #[.slice none 0 0, .int .i64 0, .int .i64 0, .int .i64 0, .int .u64 0, .int .u64 0, .int .i64 0, .int .i64 0]), 8, 80) := by kernel_rfl
/-! lists that come in -/
theorem mem_weightsAll {H : Type} {P : Program} {e : TypeId} {d : DataW H} {n : Nat} : ∀ {ds : List (DataW H)}, d ∈ ds → n ∈ d.weights P e → n ∈ DataW.weightsAll P e ds
  | [], h, _ => by simp at h
  | x :: r, h, hn => by
    simp only [DataW.weightsAll, List.mem_append]
    rcases List.mem_cons.1 h with rfl | h
    · exact .inl hn
    · exact .inr (mem_weightsAll h hn)
theorem trod_list {H : Type} {enc : TypeId × Value → H} {W : World} {fuel : Nat} {cs : List Value} {y : DataW H × List MemPlace} {α : Type} (E : Elem α) {ts e : TypeId} (hts : Tryz.prog.underlying ts = some (.slice e)) (hsz : Tryz.prog.cellsOf e = E.sz) (hs0 : 0 < E.sz)
    (hel : ∀ (n : Nat) (cs : List Value) (z : DataW H × List MemPlace), DataW.trod enc Tryz.prog W 0 (fun _ => true) true n e cs = some z → Small z.1 e → ∃ x, E.R W (fun _ => False) cs x)
    (h : DataW.trod enc Tryz.prog W 0 (fun _ => true) true fuel ts cs = some y) (hz : Small y.1 ts) :
    ∃ A c l, cs = [.slice A l.length c] ∧ Lst E W (fun _ => False) A c l := by
  rcases Go.Deep.open_slice hts h with ⟨hcs, hx⟩ | ⟨a, len, cap, m, n, D, Pl, hcs, _, hl, hm, hmm, hx, hcell⟩
  · exact ⟨none, 0, [], hcs, Lst.nil _ _⟩
  · simp only [if_true] at hmm
    rw [hsz, hmm] at hcell
    unfold maxLen at hm
    have hone : ∀ i, i < len → ∃ raw x, E.R W (fun _ => False) raw x ∧ ∀ j, j < E.sz → W.cell? ((a.add (i * E.sz)).add j) = raw[j]? := fun i hi => by
      obtain ⟨cs', hc, ht⟩ := hcell i (by omega)
      obtain ⟨_, hlc, hat⟩ := World.cells?_some hc
      have hsm : Small (D i) e := fun k hk => hz k (by
        rw [hx]
        simp only [DataW.weights, hts]
        exact List.mem_cons_of_mem _ (List.mem_append.2 (.inl (mem_weightsAll (List.mem_map.2 ⟨i, List.mem_range.2 hi, rfl⟩) hk))))
      obtain ⟨x, hx⟩ := hel n cs' _ ht hsm
      exact ⟨cs', x, hx, fun j hj => by rw [hat j (by omega)]⟩
    obtain ⟨f, hf⟩ : ∃ f : Nat → List Value × Option α, ∀ i, i < len → ∃ x, (f i).2 = some x ∧ E.R W (fun _ => False) (f i).1 x ∧ ∀ j, j < E.sz → W.cell? ((a.add (i * E.sz)).add j) = (f i).1[j]? :=
      ⟨fun i => if h : i < len then ((hone i h).choose, some (hone i h).choose_spec.choose) else ([], none), fun i hi => by
        simp only [hi, dif_pos]
        exact ⟨_, rfl, (hone i hi).choose_spec.choose_spec⟩⟩
    have hlen : ((List.range len).filterMap (fun i => (f i).2)).length = len := by
      rw [List.length_filterMap_eq_countP, List.countP_eq_length.2, List.length_range]
      intro i hi
      obtain ⟨x, hx, _⟩ := hf i (List.mem_range.1 hi)
      simp [hx]
    have hget : ∀ i, i < len → ((List.range len).filterMap (fun i => (f i).2))[i]? = (f i).2 := by
      have key : ∀ n, n ≤ len → ∀ i, i < n → ((List.range n).filterMap (fun i => (f i).2))[i]? = (f i).2 := by
        intro n
        induction n with
        | zero => intro _ i hi; omega
        | succ n ih =>
          intro hn i hi
          obtain ⟨x, hx, _⟩ := hf n (by omega)
          have hl : ((List.range n).filterMap (fun i => (f i).2)).length = n := by
            rw [List.length_filterMap_eq_countP, List.countP_eq_length.2, List.length_range]
            intro i hi
            obtain ⟨x, hx, _⟩ := hf i (by have := List.mem_range.1 hi; omega)
            simp [hx]
          rw [List.range_succ, List.filterMap_append]
          rcases Nat.lt_or_ge i n with h | h
          · rw [List.getElem?_append_left (by omega)]; exact ih (by omega) i h
          · have : i = n := by omega
            subst this
            rw [List.getElem?_append_right (by omega), hl, Nat.sub_self]
            simp [hx]
      exact key len (Nat.le_refl _)
    refine ⟨some a, cap, (List.range len).filterMap (fun i => (f i).2), by rw [hlen]; exact hcs, ⟨by rw [hlen]; exact hl, by omega, fun i x hx => ?_⟩⟩
    have hi : i < len := by have := (List.getElem?_eq_some_iff.1 hx).1; rwa [hlen] at this
    rw [hget i hi] at hx
    obtain ⟨x', hx', hr, hc⟩ := hf i hi
    rw [hx] at hx'
    injection hx' with hx'
    subst hx'
    obtain ⟨bk, off, spot⟩ := a
    have hrl := E.len hr
    have hs : spot = none := by
      obtain ⟨x0, _, hr0, hc0⟩ := hf 0 (by omega)
      have hrl0 := E.len hr0
      have h0 := hc0 0 hs0
      rw [List.getElem?_eq_getElem (by omega), Nat.zero_mul] at h0
      have : ((⟨bk, off, spot⟩ : Addr).add 0).add 0 = ⟨bk, off, spot⟩ := by unfold Addr.add; simp
      rw [this] at h0
      exact World.cell?_spot h0
    subst hs
    have eb : ∀ o j, (⟨bk, o, none⟩ : Addr).add j = ⟨bk, o + j, none⟩ := fun o j => by unfold Addr.add; split <;> simp_all
    refine ⟨bk, off, (f i).1, rfl, ?_, fun h => h, fun j hj => ?_, hr⟩
    · have h0 := hc 0 hs0
      rw [List.getElem?_eq_getElem (by omega), eb, eb] at h0
      exact World.block_lt_of_cell? W _ h0
    · have h0 := hc j hj
      rwa [eb, eb] at h0
set_option maxRecDepth 100000 in
theorem trod_rows {H : Type} {enc : TypeId × Value → H} {W : World} {fuel : Nat} {cs : List Value} {y : DataW H × List MemPlace} (h : DataW.trod enc Tryz.prog W 0 (fun _ => true) true fuel 26 cs = some y) (hz : Small y.1 26) :
    ∃ A c l, cs = [.slice A l.length c] ∧ Lst RowE W (fun _ => False) A c l := by
  refine trod_list RowE Tryz.underlying26 cellsOf_row (by decide) (fun n cs z hn hsm => ?_) h hz
  obtain ⟨xs, n', _, hx, hl, hxs, hfl⟩ := DataW.trod_struct Tryz.underlying47 hn
  rw [cellsOf_row] at hl
  match cs, hl with
  | [c0, c1], _ =>
    have f0 : DataW.trod enc Tryz.prog W 0 (fun _ => true) true n' 33 (([c0, c1].drop 0).take (Tryz.prog.cellsOf 33)) = xs[0]? := hfl 0 _ rfl
    have f1 : DataW.trod enc Tryz.prog W 0 (fun _ => true) true n' 33 (([c0, c1].drop 1).take (Tryz.prog.cellsOf 33)) = xs[1]? := hfl 1 _ rfl
    rw [cellsOf_bytes] at f0 f1
    have hxl : xs.length = 2 := hxs
    match xs, hxl with
    | [y0, y1], _ =>
      have hd : z.1 = .agg [y0.1, y1.1] := by rw [hx]; rfl
      have w0 : Small y0.1 33 := fun n hn => hsm n (by rw [hd]; simp only [DataW.weights, Tryz.underlying47]; simp [DataW.weightsEach]; exact .inl hn)
      have w1 : Small y1.1 33 := fun n hn => hsm n (by rw [hd]; simp only [DataW.weights, Tryz.underlying47]; simp [DataW.weightsEach]; exact .inr hn)
      obtain ⟨A, a, k, e0, s0⟩ := trod_bytes f0 w0
      obtain ⟨B, b, x, e1, s1⟩ := trod_bytes f1 w1
      simp at e0 e1
      subst e0 e1
      exact ⟨(k, x), A, a, B, b, rfl, Bs.bsn s0, Bs.bsn s1⟩
set_option maxRecDepth 100000 in
theorem arg_rows {H : Type} {enc : TypeId × Value → H} {W : World} {b0 : Nat} {v : Value} {d : DataW H} {ps : List MemPlace}
    (hval : Value.okWide Tryz.prog W .any b0 26 v) (h : DataW.Trod enc Tryz.prog W 0 (fun _ => true) true 26 v d ps) (hz : Small d 26) :
    ∃ A c l, v = .slice A l.length c ∧ Lst RowE W (fun _ => False) A c l := by
  obtain ⟨a0, len, cap, rfl⟩ := okWide_slice Tryz.underlying26 hval
  obtain ⟨fuel, hf⟩ := h
  obtain ⟨A, c, l, e, hl⟩ := trod_rows hf hz
  simp [Value.cells] at e
  obtain ⟨rfl, rfl, rfl⟩ := e
  exact ⟨_, _, l, rfl, hl⟩
end Go.Proofs.YtafdhccdjbfepaaGreat.Lst
/- The walks of the document's Less and twice. -/
namespace Go.Proofs.YtafdhccdjbfepaaGreat.Lst
open Go.RowKit Go.Proofs.YtafdhccdjbfepaaGreat.K Go.Proofs.YtafdhccdjbfepaaGreat.Help Go.Proofs.YtafdhccdjbfepaaGreat.Pfx Go.Proofs.YtafdhccdjbfepaaGreat.Peer
set_option linter.unusedVariables false

/-- are l's bytes ahead of m's? -/
def lessB : List UInt8 → List UInt8 → Bool
  | [], [] => false
  | [], _ :: _ => true
  | _ :: _, [] => false
  | x :: l, y :: m => if x = y then lessB l m else decide (x < y)
theorem lessB_at {l m : List UInt8} {k : Nat} (h1 : k < l.length) (h2 : k < m.length) : lessB (l.drop k) (m.drop k) = if l.getD k 0 = m.getD k 0 then lessB (l.drop (k + 1)) (m.drop (k + 1)) else decide (l.getD k 0 < m.getD k 0) := by
  rw [List.drop_eq_getElem_cons h1, List.drop_eq_getElem_cons h2, lessB]
  simp [h1, h2]
theorem lessB_end {l m : List UInt8} {k : Nat} (h : k ≥ l.length ∨ k ≥ m.length) (h1 : k ≤ l.length) (h2 : k ≤ m.length) : lessB (l.drop k) (m.drop k) = decide (l.length < m.length) := by
  rcases h with h | h
  · have : k = l.length := by omega
    subst this
    rw [List.drop_length]
    rcases Nat.lt_or_ge l.length m.length with h3 | h3
    · rw [List.drop_eq_getElem_cons h3, lessB]; simp [h3]
    · rw [List.drop_of_length_le h3, lessB]; simp; omega
  · have : k = m.length := by omega
    subst this
    rw [List.drop_length]
    rcases Nat.lt_or_ge m.length l.length with h3 | h3
    · rw [List.drop_eq_getElem_cons h3, lessB]; simp; omega
    · rw [List.drop_of_length_le h3, lessB]; simp; omega
set_option maxRecDepth 100000 in
set_option maxHeartbeats 1000000 in
theorem less_any (A B : Option Addr) (c d : Nat) (l m : List UInt8) (w : World) (ha : Bs w A c l) (hb : Bs w B d m) :
    Calls Tryz.prog 115 #[.slice A l.length c, .slice B m.length d] w (Quiet (.bool (lessB l m)) w) := by
  have HA := Lib.hid ha
  have HB := Lib.hid hb
  have h1 := ha.max
  have h2 := hb.max
  clear ha hb
  obtain ⟨t, ht⟩ : ∃ t, lessB l m = t := ⟨_, rfl⟩
  rw [ht]
  have HT0 : Hid (lessB (l.drop 0) (m.drop 0) = t) := by rw [List.drop_zero, List.drop_zero]; exact ht
  clear ht
  go_enter Tryz.func115, Tryz.ntmps115
  go_wp2_with fail
  go_loopg [5] l.length (fun gk i wr => ∃ k : Nat, k ≤ l.length ∧ k ≤ m.length ∧ gk = l.length - k ∧ i = .int .i64 (k : Int) ∧ Hid (lessB (l.drop k) (m.drop k) = t) ∧ ∃ q, wr = w.drewN q)
  case atStart => exact ⟨0, by omega, by omega, rfl, rfl, HT0, 0, rfl⟩
  case round =>
    obtain ⟨k, hk, hk2, rfl, rfl, HT, q, rfl⟩ := hrel
    by_cases hlt : k < l.length
    · have i1 : (k : Int) < (l.length : Int) := by omega
      by_cases hlm : k < m.length
      · have i2 : (k : Int) < (m.length : Int) := by omega
        obtain ⟨ad, e1, _, c1⟩ := HA.out.at_ k hlt
        obtain ⟨bd, e2, _, c2⟩ := HB.out.at_ k hlm
        subst e1 e2
        have hs := lessB_at hlt hlm
        by_cases hx : l.getD k 0 = m.getD k 0
        · have hx1 : (((l.getD k 0).toNat : Int) != (m.getD k 0).toNat) = false := by rw [hx]; simp
          have HN : Hid (lessB (l.drop (k + 1)) (m.drop (k + 1)) = t) := by rw [Hid, ← HT.out, hs, if_pos hx]
          clear hx hs
          generalize l.getD k 0 = x at *
          generalize m.getD k 0 = y at *
          go_wp2_with fail
          go_quiet (fail)
          go_wp2_with fail
          go_roundg (l.length - (k + 1))
          case measure => omega
          case rel => exact ⟨k + 1, by omega, by omega, rfl, by go_num, HN, _, rfl⟩
        · have hx1 : (((l.getD k 0).toNat : Int) != (m.getD k 0).toNat) = true := by
            rw [bne_iff_ne]; intro h; exact hx (UInt8.toNat_inj.1 (by omega))
          have HN : Hid (t = decide (((l.getD k 0).toNat : Int) < (m.getD k 0).toNat)) := by
            rw [Hid, ← HT.out, hs, if_neg hx]
            simp [UInt8.lt_iff_toNat_lt]
          clear hx hs
          generalize l.getD k 0 = x at *
          generalize m.getD k 0 = y at *
          go_wp2_with fail
          go_quiet (fail)
          go_wp2_with fail
          go_quiet (fail)
          go_wp2_with fail
          go_ret
          refine ⟨_, ret_bool ?_, by rw [World.drewN_drewN, World.drewN_drewN]⟩
          rw [HN.out]
          try simp
      · have i2 : ¬ (k : Int) < (m.length : Int) := by omega
        have HN : Hid (t = decide ((l.length : Int) < (m.length : Int))) := by rw [Hid, ← HT.out, lessB_end (.inr (by omega)) hk hk2]; simp
        go_wp2_with fail
        go_ret
        exact ⟨q, by rw [HN.out]; try simp, rfl⟩
    · have i1 : ¬ (k : Int) < (l.length : Int) := by omega
      have HN : Hid (t = decide ((l.length : Int) < (m.length : Int))) := by rw [Hid, ← HT.out, lessB_end (.inl (by omega)) hk hk2]; simp
      go_wp2_with fail
      go_ret
      exact ⟨q, by rw [HN.out]; try simp, rfl⟩
/-- a quiet callee in a quiet region that begins q draws behind w -/
theorem quiet_at {P : Program} {f : FuncId} {args : Array Value} {w : World} {q a : Nat} {v : Value} (h : Calls P f args (w.drewN (q + a)) (Quiet v (w.drewN (q + a)))) : Calls P f args (w.drewN (q + a)) fun e w'' => e = .returned v ∧ ∃ n, w'' = w.drewN (q + n) :=
  h.mono fun e w' ⟨m, h1, h2⟩ => ⟨h1, a + m, by rw [h2, World.drewN_drewN, Nat.add_assoc]⟩
def zR : RowD := ([], [])
open Classical in
/-- have two rows one key? -/
noncomputable def twiceB (l : List RowD) : Bool := decide (∃ i, i < l.length ∧ ∃ j, j < i ∧ (l.getD i zR).1 = (l.getD j zR).1)
theorem getD_get {α : Type} {l : List α} {i : Nat} (z : α) (h : i < l.length) : l[i]? = some (l.getD i z) := by
  rw [List.getD_eq_getElem?_getD, List.getElem?_eq_getElem h]; rfl
set_option maxRecDepth 100000 in
set_option maxHeartbeats 1000000 in
theorem twice_any (A : Option Addr) (c : Nat) (l : List RowD) (w : World) (hl : Lst RowE w (fun _ => False) A c l) :
    Calls Tryz.prog 95 #[.slice A l.length c] w (Quiet (.bool (twiceB l)) w) := by
  have HL := Lib.hid hl
  have h1 := hl.le
  have h2 := hl.max
  clear hl
  obtain ⟨t, ht⟩ : ∃ t, twiceB l = t := ⟨_, rfl⟩
  rw [ht]
  have HT := Lib.hid ht
  clear ht
  generalize hn : l.length = n at *
  have HN := Lib.hid hn
  clear hn
  go_enter Tryz.func95, Tryz.ntmps95
  go_wp2_with fail
  go_loopg [3] n (fun gk i wr => ∃ k : Nat, k ≤ n ∧ gk = n - k ∧ i = .int .i64 (k : Int) ∧ Hid (∀ i, i < k → ∀ j, j < i → (l.getD i zR).1 ≠ (l.getD j zR).1) ∧ ∃ q, wr = w.drewN q)
  case atStart => exact ⟨0, by omega, rfl, rfl, fun i hi => by omega, 0, rfl⟩
  case round =>
    obtain ⟨k, hk, rfl, rfl, HK, q, rfl⟩ := hrel
    by_cases hlt : k < n
    · have i1 : (k : Int) < (n : Int) := by omega
      have i0 : (0 : Int) ≤ (k : Int) := by omega
      obtain ⟨bk, off, A1, a1, B1, b1, rfl, -, c1, -, s1, -⟩ := HL.out.row k _ (getD_get zR (by rw [HN.out]; exact hlt))
      have S1 := Lib.hid s1
      clear s1
      go_wp2_with fail
      go_loopg [4] k (fun gk i wr => ∃ j : Nat, j ≤ k ∧ gk = k - j ∧ i = .int .i64 (j : Int) ∧ Hid (∀ j', j' < j → (l.getD k zR).1 ≠ (l.getD j' zR).1) ∧ ∃ q, wr = w.drewN q)
      case atStart => exact ⟨0, by omega, rfl, rfl, fun i hi => by omega, q, rfl⟩
      case round =>
        obtain ⟨j, hj, rfl, rfl, HJ, q, rfl⟩ := hrel
        by_cases hjl : j < k
        · have j1 : (j : Int) < (k : Int) := by omega
          have j2 : (j : Int) < (n : Int) := by omega
          have j0 : (0 : Int) ≤ (j : Int) := by omega
          obtain ⟨bk2, off2, A2, a2, B2, b2, e, -, c2, -, s2, -⟩ := HL.out.row j _ (getD_get zR (by rw [HN.out]; omega))
          obtain ⟨rfl, rfl⟩ : bk = bk2 ∧ off = off2 := by simpa using e
          have V := Lib.hid (fun n => sameBytes A1 A2 a1 a2 (l.getD k zR).1 (l.getD j zR).1 (w.drewN n) (S1.out.1.drewN n) (s2.1.drewN n))
          clear s2 e
          by_cases hx : (l.getD k zR).1 = (l.getD j zR).1
          · have hd : decide ((l.getD k zR).1 = (l.getD j zR).1) = true := decide_eq_true hx
            rw [hd] at V
            have HF : Hid (t = true) := by
              rw [Hid, ← HT.out]
              exact decide_eq_true ⟨k, by rw [HN.out]; exact hlt, j, hjl, hx⟩
            clear hx hd
            generalize (l.getD k zR).1.length = kl at *
            generalize (l.getD j zR).1.length = jl at *
            go_wp2_with fail
            go_quiet ((go_at_call 34; exact quiet_at (V.out _)))
            go_wp2_with fail
            go_ret
            exact ⟨_, ret_bool HF.out.symm, by rw [World.drewN_drewN]⟩
          · have hd : decide ((l.getD k zR).1 = (l.getD j zR).1) = false := decide_eq_false hx
            rw [hd] at V
            have HJ2 : Hid (∀ j', j' < j + 1 → (l.getD k zR).1 ≠ (l.getD j' zR).1) := fun j' hj' => by
              rcases Nat.lt_or_ge j' j with h | h
              · exact HJ.out j' h
              · have : j' = j := by omega
                subst this; exact hx
            clear hx hd
            generalize (l.getD k zR).1.length = kl at *
            generalize (l.getD j zR).1.length = jl at *
            go_wp2_with fail
            go_quiet ((go_at_call 34; exact quiet_at (V.out _)))
            go_wp2_with fail
            go_roundg (k - (j + 1))
            case measure => omega
            case rel => exact ⟨j + 1, by omega, rfl, by go_num, HJ2, _, rfl⟩
        · obtain rfl : j = k := by omega
          have j1 : ¬ (j : Int) < (j : Int) := by omega
          have HK2 : Hid (∀ i, i < j + 1 → ∀ j', j' < i → (l.getD i zR).1 ≠ (l.getD j' zR).1) := fun i hi j' hj' => by
            rcases Nat.lt_or_ge i j with h | h
            · exact HK.out i h j' hj'
            · have : i = j := by omega
              subst this; exact HJ.out j' hj'
          go_wp2_with fail
          go_roundg (n - (j + 1))
          case measure => omega
          case rel => exact ⟨j + 1, by omega, rfl, by go_num, HK2, _, rfl⟩
    · obtain rfl : k = n := by omega
      have i1 : ¬ (k : Int) < (k : Int) := by omega
      have HF : Hid (t = false) := by
        rw [Hid, ← HT.out]
        refine decide_eq_false ?_
        rintro ⟨i, hi, j, hj, h⟩
        exact HK.out i (by rw [← HN.out]; exact hi) j hj h
      go_wp2_with fail
      go_ret
      exact ⟨q, ret_bool HF.out.symm, rfl⟩
end Go.Proofs.YtafdhccdjbfepaaGreat.Lst
/- The walks of the document's layPeer and layLane: an element at its place. -/
namespace Go.Proofs.YtafdhccdjbfepaaGreat.Lst
open Go.RowKit Go.Proofs.YtafdhccdjbfepaaGreat.K Go.Proofs.YtafdhccdjbfepaaGreat.Help Go.Proofs.YtafdhccdjbfepaaGreat.Pfx Go.Proofs.YtafdhccdjbfepaaGreat.Peer
set_option linter.unusedVariables false

theorem lane_key {w : World} {N : Nat → Prop} {A : Option Addr} {n a : Nat} {rest : List Value} {d : LaneD} (h : LaneE.R w N (Value.slice A n a :: rest) d) : Bs w A a d.key ∧ LaneB d := by
  obtain ⟨A', a', e, h1, h2⟩ := h
  injection e with e1 e2
  injection e1 with e3 e4 e5
  subst e3 e5
  exact ⟨h1.1, h2⟩
theorem quiet_at0 {P : Program} {f : FuncId} {args : Array Value} {w : World} {a : Nat} {v : Value} (h : Calls P f args (w.drewN a) (Quiet v (w.drewN a))) : Calls P f args (w.drewN a) fun e w'' => e = .returned v ∧ ∃ n, w'' = w.drewN n :=
  h.mono fun e w' ⟨m, h1, h2⟩ => ⟨h1, a + m, by rw [h2, World.drewN_drewN]⟩
/-- one round: what is laid so far, is p laid? -/
def layF {α : Type} (lt : α → α → Bool) (p : α) (s : List α × Bool) (x : α) : List α × Bool := if !s.2 && lt p x then (s.1 ++ [p, x], true) else (s.1 ++ [x], s.2)
def layG {α : Type} (lt : α → α → Bool) (l : List α) (p : α) : List α := if (l.foldl (layF lt p) ([], false)).2 then (l.foldl (layF lt p) ([], false)).1 else (l.foldl (layF lt p) ([], false)).1 ++ [p]
theorem layF_len {α : Type} (lt : α → α → Bool) (p : α) (l : List α) : ∀ s : List α × Bool, (l.foldl (layF lt p) s).1.length ≤ s.1.length + l.length + 1 ∧ (s.2 = true → (l.foldl (layF lt p) s).1.length = s.1.length + l.length) := by
  induction l with
  | nil => intro s; simp
  | cons x r ih =>
    intro s
    rw [List.foldl_cons]
    have h := ih (layF lt p s x)
    unfold layF at h ⊢
    split at h
    · rename_i hc
      rw [if_pos hc]
      simp only [Bool.and_eq_true, Bool.not_eq_true'] at hc
      have := h.2 rfl
      simp only [List.length_append, List.length_cons, List.length_nil] at this ⊢
      exact ⟨by omega, fun h2 => by rw [h2] at hc; exact absurd hc.1 (by decide)⟩
    · rename_i hc
      rw [if_neg hc]
      simp only [List.length_append, List.length_cons, List.length_nil] at h ⊢
      exact ⟨by omega, fun h2 => by have := h.2 h2; omega⟩
theorem lay_step {α : Type} (lt : α → α → Bool) (p z : α) (l : List α) (k : Nat) (hk : k < l.length) : (l.take (k + 1)).foldl (layF lt p) ([], false) = layF lt p ((l.take k).foldl (layF lt p) ([], false)) (l.getD k z) := by
  rw [List.take_succ_eq_append_getElem hk, List.foldl_append]
  simp [hk]
theorem layF_yes {α : Type} {lt : α → α → Bool} {p x : α} {M : List α} (h : lt p x = true) : layF lt p (M, false) x = (M ++ [p, x], true) := by simp [layF, h]
theorem layF_no {α : Type} {lt : α → α → Bool} {p x : α} {M : List α} {b : Bool} (h : b = true ∨ lt p x = false) : layF lt p (M, b) x = (M ++ [x], b) := by
  rcases h with h | h
  · subst h; simp [layF]
  · simp [layF, h]
/-- new memory that holds such a list -/
def RetL {α : Type} (E : Elem α) (w : World) (l : List α) (e : Ending) (w' : World) : Prop := ∃ A c, e = .returned (.slice A l.length c) ∧ Lst E w' (fun _ => False) A c l ∧ Below w.heap.size w w'
/-- an old element may be appended -/
theorem old_el {α : Type} {E : Elem α} {t : TypeId} {w W W2 : World} {B : Nat} {v : Value} {M : List α} {raw : List Value} {x : α} (h : E.R w (fun _ => False) raw x) (hb : Below w.heap.size w W) (ho : OwnL E t W2 (fun _ => False) B v M) (hB : w.heap.size ≤ B) :
    E.R W (fun k => (fun _ => False) k ∨ v.ownBlock = some k) raw x :=
  E.reno (E.below (E.reno (N' := fun i => w.heap.size ≤ i) h (fun i hi => .inr hi)) hb) (fun i hi => .inl (hi.elim False.elim (fun h => Nat.le_trans hB (ho.base_le h))))

def ltP (a b : PeerD) : Bool := decide (a.link < b.link)
def ltL (a b : LaneD) : Bool := lessB a.key b.key
set_option maxRecDepth 100000 in
set_option maxHeartbeats 4000000 in
theorem layPeer_any (A : Option Addr) (c : Nat) (l : List PeerD) (A0 : Option Addr) (a0 : Nat) (B0 : Option Addr) (b0 : Nat) (p : PeerD) (w : World) (hl : Lst PeerE w (fun _ => False) A c l) (hr : PeerE.R w (fun _ => False) ([Value.int .i64 p.link, .slice A0 p.key.length a0, .slice B0 p.ps.length b0]) p) (hn : l.length ≤ 1000) :
    Calls Tryz.prog 96 #[.slice A l.length c, .agg ([Value.int .i64 p.link, .slice A0 p.key.length a0, .slice B0 p.ps.length b0]).toArray] w (RetL PeerE w (layG ltP l p)) := by
  have HL := Lib.hid hl
  have h1 := hl.le
  have h2 := hl.max
  have HP := Lib.hid hr
  clear hl hr
  generalize hm : l.length = n at *
  have HN := Lib.hid hm
  clear hm
  generalize hg : layG ltP l p = res
  have HG := Lib.hid hg
  clear hg
  obtain ⟨pl, pk, pp⟩ := p
  dsimp only at HP ⊢
  have HB0 := Lib.hid (blk_new w (.cells #[.int .i64 pl, .slice A0 pk.length a0, .slice B0 pp.length b0] 36))
  go_enter Tryz.func96, Tryz.ntmps96
  go_wp2_with fail
  go_loopg [7, 5, 6] n (fun gk i s5 s6 wr => ∃ (k : Nat) (M : List PeerD) (b : Bool), k ≤ n ∧ gk = n - k ∧ i = .int .i64 (k : Int) ∧ s6 = .bool b ∧ Hid ((l.take k).foldl (layF ltP ⟨pl, pk, pp⟩) ([], false) = (M, b)) ∧ OwnL PeerE 36 wr (fun _ => False) (w.heap.size + 1) s5 M ∧ wr.heap[w.heap.size]? = some (.cells #[.int .i64 pl, .slice A0 pk.length a0, .slice B0 pp.length b0] 36 (0, 0)) ∧ Below w.heap.size w wr)
  case atStart => exact ⟨0, [], false, by omega, rfl, rfl, rfl, rfl, OwnL.nil _ _ _ _ _, HB0.out, (Below.refl _ _).alloc (Nat.le_refl _) _⟩
  case round =>
    obtain ⟨k, M, b, hk, rfl, rfl, rfl, HM, ho, hb, hbel⟩ := hrel
    obtain ⟨AM, cM, rfl⟩ := ho.slice
    have hlen := layF_len ltP ⟨pl, pk, pp⟩ (l.take k) ([], false)
    rw [HM.out] at hlen
    have hml : M.length ≤ 1002 := by have := hlen.1; simp only [List.length_nil, List.length_take] at this; omega
    clear hlen
    have HML := Lib.hid hml
    have p0 : wr.cell? ⟨w.heap.size, 0, none⟩ = some (.int .i64 pl) := (blk_cell hb 0).trans rfl
    have p1 : wr.cell? ⟨w.heap.size, 1, none⟩ = some (.slice A0 pk.length a0) := (blk_cell hb 1).trans rfl
    have p2 : wr.cell? ⟨w.heap.size, 2, none⟩ = some (.slice B0 pp.length b0) := (blk_cell hb 2).trans rfl
    have HO := Lib.hid ho
    have HB := Lib.hid hb
    have HW := Lib.hid hbel
    have hsz : w.heap.size + 1 ≤ wr.heap.size := blk_lt hb
    have HSZ := Lib.hid hsz
    clear ho hb hbel hsz hml
    by_cases hlt : k < n
    · have i1 : (k : Int) < (n : Int) := by omega
      have i0 : (0 : Int) ≤ (k : Int) := by omega
      have HST := Lib.hid (lay_step ltP ⟨pl, pk, pp⟩ zeroPeer l k (by rw [HN.out]; exact hlt))
      rw [HM.out] at HST
      obtain ⟨bk, off, raw, rfl, hbk, -, hc, hR⟩ := HL.out.at_ k _ (getD_get zeroPeer (by rw [HN.out]; exact hlt))
      obtain ⟨⟨xl, xk, xp⟩, hx⟩ : ∃ y, l.getD k zeroPeer = y := ⟨_, rfl⟩
      rw [hx] at hR HST
      have hR2 := hR
      obtain ⟨A1, a1, B1, b1, rfl, -, -⟩ := hR
      have hRX : PeerE.R w (fun _ => False) ([Value.int .i64 xl, .slice A1 xk.length a1, .slice B1 xp.length b1]) ⟨xl, xk, xp⟩ := hR2
      have HRX := Lib.hid hRX
      have x0 : wr.cell? ⟨bk, off + k * 3, none⟩ = some (.int .i64 xl) := (HW.out.cell (p := ⟨bk, _, none⟩) hbk).trans (hc 0 (by decide))
      have x1 : wr.cell? ⟨bk, off + k * 3 + 1, none⟩ = some (.slice A1 xk.length a1) := (HW.out.cell (p := ⟨bk, _, none⟩) hbk).trans (hc 1 (by decide))
      have x2 : wr.cell? ⟨bk, off + k * 3 + 2, none⟩ = some (.slice B1 xp.length b1) := (HW.out.cell (p := ⟨bk, _, none⟩) hbk).trans (hc 2 (by decide))
      clear hc hR2 hx hRX
      cases b
      · by_cases hlk : pl < xl
        · have hs := HST.out
          rw [layF_yes (by unfold ltP; exact decide_eq_true hlk)] at hs
          have HS := Lib.hid hs
          clear hs
          go_wp2_with fail
          go_quiet (fail)
          obtain ⟨wq, hwq⟩ : ∃ W, W = wr.drewN nq := ⟨_, rfl⟩
          rw [← hwq]
          have HOq : Hid (OwnL PeerE 36 wq (fun _ => False) (w.heap.size + 1) (.slice AM M.length cM) M) := by rw [hwq]; exact HO.out.drewN nq
          have HBq : Hid (wq.heap[w.heap.size]? = some (.cells #[.int .i64 pl, .slice A0 pk.length a0, .slice B0 pp.length b0] 36 (0, 0))) := by rw [hwq]; exact HB.out
          have HWq : Hid (Below w.heap.size w wq) := by rw [hwq]; exact below_drewN HW.out nq
          have HSQ : Hid (w.heap.size + 1 ≤ wq.heap.size) := Lib.hid (blk_lt HBq.out)
          have p0q : wq.cell? ⟨w.heap.size, 0, none⟩ = some (.int .i64 pl) := (blk_cell HBq.out 0).trans rfl
          have p1q : wq.cell? ⟨w.heap.size, 1, none⟩ = some (.slice A0 pk.length a0) := (blk_cell HBq.out 1).trans rfl
          have p2q : wq.cell? ⟨w.heap.size, 2, none⟩ = some (.slice B0 pp.length b0) := (blk_cell HBq.out 2).trans rfl
          have x0q : wq.cell? ⟨bk, off + k * 3, none⟩ = some (.int .i64 xl) := by rw [hwq]; exact x0
          have x1q : wq.cell? ⟨bk, off + k * 3 + 1, none⟩ = some (.slice A1 xk.length a1) := by rw [hwq]; exact x1
          have x2q : wq.cell? ⟨bk, off + k * 3 + 2, none⟩ = some (.slice B1 xp.length b1) := by rw [hwq]; exact x2
          clear hwq
          have HWP := Lib.hid (below_alloc HWq.out (.cells #[.int .i64 pl, .slice A0 pk.length a0, .slice B0 pp.length b0] 36))
          have HP1 := Lib.hid (blk_new wq (.cells #[.int .i64 pl, .slice A0 pk.length a0, .slice B0 pp.length b0] 36))
          have HOP := Lib.hid (HOq.out.below (below_alloc (Below.refl _ _) (.cells #[.int .i64 pl, .slice A0 pk.length a0, .slice B0 pp.length b0] 36)))
          have HBP := Lib.hid (blk_alloc HBq.out (.cells #[.int .i64 pl, .slice A0 pk.length a0, .slice B0 pp.length b0] 36))
          have HPA := Lib.hid (old_el HP.out HWP.out HOP.out (Nat.le_succ _))
          go_wp2_with (first
          | (at_builtin; refine push (E := PeerE) 36 22 _ 56 rfl (.tmp 26) (.tmp 28) rfl Tryz.underlying22 info_peer rfl (by decide) (by decide) (by decide) (.slice AM M.length cM) M ⟨pl, pk, pp⟩ ([Value.int .i64 pl, .slice A0 pk.length a0, .slice B0 pp.length b0]) wq.heap.size 1 rfl rfl HOP.out HP1.out HPA.out (by have := HSQ.out; simp; omega) (by have := HML.out; omega) ?_ (fun _ h => h.elim); intro A2 c2 w2 o2 k2 n2; have W2 := Lib.hid (below_only HWP.out k2 (fun i hi => by have := HOP.out.base_le hi; omega)); have B2 := Lib.hid (k2.blk HBP.out (fun h => by have := HOP.out.base_le h; omega)); have y0 : w2.cell? ⟨bk, off + k * 3, none⟩ = some (.int .i64 xl) := (W2.out.cell (p := ⟨bk, _, none⟩) hbk).trans ((HWq.out.cell (p := ⟨bk, _, none⟩) hbk).symm.trans x0q); have y1 : w2.cell? ⟨bk, off + k * 3 + 1, none⟩ = some (.slice A1 xk.length a1) := (W2.out.cell (p := ⟨bk, _, none⟩) hbk).trans ((HWq.out.cell (p := ⟨bk, _, none⟩) hbk).symm.trans x1q); have y2 : w2.cell? ⟨bk, off + k * 3 + 2, none⟩ = some (.slice B1 xp.length b1) := (W2.out.cell (p := ⟨bk, _, none⟩) hbk).trans ((HWq.out.cell (p := ⟨bk, _, none⟩) hbk).symm.trans x2q); have S2 := Lib.hid (blk_lt B2.out); have W2A := Lib.hid (below_alloc W2.out (.cells #[.int .i64 xl, .slice A1 xk.length a1, .slice B1 xp.length b1] 36)); have X2 := Lib.hid (blk_new w2 (.cells #[.int .i64 xl, .slice A1 xk.length a1, .slice B1 xp.length b1] 36)); have O2A := Lib.hid (o2.below (below_alloc (Below.refl _ _) (.cells #[.int .i64 xl, .slice A1 xk.length a1, .slice B1 xp.length b1] 36))); have B2A := Lib.hid (blk_alloc B2.out (.cells #[.int .i64 xl, .slice A1 xk.length a1, .slice B1 xp.length b1] 36)); have R2A := Lib.hid (old_el HRX.out W2A.out O2A.out (Nat.le_succ _)); clear o2 k2 n2)
          | (at_builtin; refine push (E := PeerE) 36 22 _ 56 rfl (.tmp 30) (.tmp 35) rfl Tryz.underlying22 info_peer rfl (by decide) (by decide) (by decide) (.slice A2 (M.length + 1) c2) (M ++ [⟨pl, pk, pp⟩]) ⟨xl, xk, xp⟩ ([Value.int .i64 xl, .slice A1 xk.length a1, .slice B1 xp.length b1]) w2.heap.size 1 rfl rfl O2A.out X2.out R2A.out (by have := S2.out; simp; omega) (by have := HML.out; simp; omega) ?_ (fun _ h => h.elim); intro A3 c3 w3 o3 k3 n3; have O3 := Lib.hid o3; have W3 := Lib.hid (below_only W2A.out k3 (fun i hi => by have := O2A.out.base_le hi; omega)); have B3 := Lib.hid (k3.blk B2A.out (fun h => by have := O2A.out.base_le h; omega)); clear o3 k3 n3))
          go_roundg (n - (k + 1))
          case measure => omega
          case rel => exact ⟨k + 1, M ++ [⟨pl, pk, pp⟩, ⟨xl, xk, xp⟩], true, by omega, rfl, by go_num, rfl, HS, by have h := O3.out; rw [List.append_assoc] at h; simpa using h, B3.out, W3.out⟩

        · have hs := HST.out
          rw [layF_no (.inr (by unfold ltP; exact decide_eq_false hlk))] at hs
          have HS := Lib.hid hs
          clear hs
          go_wp2_with fail
          go_quiet (fail)
          obtain ⟨wq, hwq⟩ : ∃ W, W = wr.drewN nq := ⟨_, rfl⟩
          rw [← hwq]
          have HOq : Hid (OwnL PeerE 36 wq (fun _ => False) (w.heap.size + 1) (.slice AM M.length cM) M) := by rw [hwq]; exact HO.out.drewN nq
          have HBq : Hid (wq.heap[w.heap.size]? = some (.cells #[.int .i64 pl, .slice A0 pk.length a0, .slice B0 pp.length b0] 36 (0, 0))) := by rw [hwq]; exact HB.out
          have HWq : Hid (Below w.heap.size w wq) := by rw [hwq]; exact below_drewN HW.out nq
          have HSQ : Hid (w.heap.size + 1 ≤ wq.heap.size) := Lib.hid (blk_lt HBq.out)
          have p0q : wq.cell? ⟨w.heap.size, 0, none⟩ = some (.int .i64 pl) := (blk_cell HBq.out 0).trans rfl
          have p1q : wq.cell? ⟨w.heap.size, 1, none⟩ = some (.slice A0 pk.length a0) := (blk_cell HBq.out 1).trans rfl
          have p2q : wq.cell? ⟨w.heap.size, 2, none⟩ = some (.slice B0 pp.length b0) := (blk_cell HBq.out 2).trans rfl
          have x0q : wq.cell? ⟨bk, off + k * 3, none⟩ = some (.int .i64 xl) := by rw [hwq]; exact x0
          have x1q : wq.cell? ⟨bk, off + k * 3 + 1, none⟩ = some (.slice A1 xk.length a1) := by rw [hwq]; exact x1
          have x2q : wq.cell? ⟨bk, off + k * 3 + 2, none⟩ = some (.slice B1 xp.length b1) := by rw [hwq]; exact x2
          clear hwq
          have HWA := Lib.hid (below_alloc HWq.out (.cells #[.int .i64 xl, .slice A1 xk.length a1, .slice B1 xp.length b1] 36))
          have HX1 := Lib.hid (blk_new wq (.cells #[.int .i64 xl, .slice A1 xk.length a1, .slice B1 xp.length b1] 36))
          have HOA := Lib.hid (HOq.out.below (below_alloc (Below.refl _ _) (.cells #[.int .i64 xl, .slice A1 xk.length a1, .slice B1 xp.length b1] 36)))
          have HBA := Lib.hid (blk_alloc HBq.out (.cells #[.int .i64 xl, .slice A1 xk.length a1, .slice B1 xp.length b1] 36))
          have HXA := Lib.hid (old_el HRX.out HWA.out HOA.out (Nat.le_succ _))
          go_wp2_with (at_builtin; refine push (E := PeerE) 36 22 _ 56 rfl (.tmp 30) (.tmp 35) rfl Tryz.underlying22 info_peer rfl (by decide) (by decide) (by decide) (.slice AM M.length cM) M ⟨xl, xk, xp⟩ ([Value.int .i64 xl, .slice A1 xk.length a1, .slice B1 xp.length b1]) wq.heap.size 1 rfl rfl (HOA.out) HX1.out HXA.out (by have := HSQ.out; simp; omega) (by have := HML.out; omega) ?_ (fun _ h => h.elim); intro A3 c3 w3 o3 k3 n3; have O3 := Lib.hid o3; have W3 := Lib.hid (below_only HWA.out k3 (fun i hi => by have := (HOA.out).base_le hi; omega)); have B3 := Lib.hid (k3.blk HBA.out (fun h => by have := (HOA.out).base_le h; omega)); clear o3 k3 n3)
          go_roundg (n - (k + 1))
          case measure => omega
          case rel => exact ⟨k + 1, M ++ [⟨xl, xk, xp⟩], false, by omega, rfl, by go_num, rfl, HS, O3.out, B3.out, W3.out⟩

      · have hs := HST.out
        rw [layF_no (.inl rfl)] at hs
        have HS := Lib.hid hs
        clear hs
        go_wp2_with fail
        go_quiet (fail)
        obtain ⟨wq, hwq⟩ : ∃ W, W = wr.drewN nq := ⟨_, rfl⟩
        rw [← hwq]
        have HOq : Hid (OwnL PeerE 36 wq (fun _ => False) (w.heap.size + 1) (.slice AM M.length cM) M) := by rw [hwq]; exact HO.out.drewN nq
        have HBq : Hid (wq.heap[w.heap.size]? = some (.cells #[.int .i64 pl, .slice A0 pk.length a0, .slice B0 pp.length b0] 36 (0, 0))) := by rw [hwq]; exact HB.out
        have HWq : Hid (Below w.heap.size w wq) := by rw [hwq]; exact below_drewN HW.out nq
        have HSQ : Hid (w.heap.size + 1 ≤ wq.heap.size) := Lib.hid (blk_lt HBq.out)
        have p0q : wq.cell? ⟨w.heap.size, 0, none⟩ = some (.int .i64 pl) := (blk_cell HBq.out 0).trans rfl
        have p1q : wq.cell? ⟨w.heap.size, 1, none⟩ = some (.slice A0 pk.length a0) := (blk_cell HBq.out 1).trans rfl
        have p2q : wq.cell? ⟨w.heap.size, 2, none⟩ = some (.slice B0 pp.length b0) := (blk_cell HBq.out 2).trans rfl
        have x0q : wq.cell? ⟨bk, off + k * 3, none⟩ = some (.int .i64 xl) := by rw [hwq]; exact x0
        have x1q : wq.cell? ⟨bk, off + k * 3 + 1, none⟩ = some (.slice A1 xk.length a1) := by rw [hwq]; exact x1
        have x2q : wq.cell? ⟨bk, off + k * 3 + 2, none⟩ = some (.slice B1 xp.length b1) := by rw [hwq]; exact x2
        clear hwq
        have HWA := Lib.hid (below_alloc HWq.out (.cells #[.int .i64 xl, .slice A1 xk.length a1, .slice B1 xp.length b1] 36))
        have HX1 := Lib.hid (blk_new wq (.cells #[.int .i64 xl, .slice A1 xk.length a1, .slice B1 xp.length b1] 36))
        have HOA := Lib.hid (HOq.out.below (below_alloc (Below.refl _ _) (.cells #[.int .i64 xl, .slice A1 xk.length a1, .slice B1 xp.length b1] 36)))
        have HBA := Lib.hid (blk_alloc HBq.out (.cells #[.int .i64 xl, .slice A1 xk.length a1, .slice B1 xp.length b1] 36))
        have HXA := Lib.hid (old_el HRX.out HWA.out HOA.out (Nat.le_succ _))
        go_wp2_with (at_builtin; refine push (E := PeerE) 36 22 _ 56 rfl (.tmp 30) (.tmp 35) rfl Tryz.underlying22 info_peer rfl (by decide) (by decide) (by decide) (.slice AM M.length cM) M ⟨xl, xk, xp⟩ ([Value.int .i64 xl, .slice A1 xk.length a1, .slice B1 xp.length b1]) wq.heap.size 1 rfl rfl (HOA.out) HX1.out HXA.out (by have := HSQ.out; simp; omega) (by have := HML.out; omega) ?_ (fun _ h => h.elim); intro A3 c3 w3 o3 k3 n3; have O3 := Lib.hid o3; have W3 := Lib.hid (below_only HWA.out k3 (fun i hi => by have := (HOA.out).base_le hi; omega)); have B3 := Lib.hid (k3.blk HBA.out (fun h => by have := (HOA.out).base_le h; omega)); clear o3 k3 n3)
        go_roundg (n - (k + 1))
        case measure => omega
        case rel => exact ⟨k + 1, M ++ [⟨xl, xk, xp⟩], true, by omega, rfl, by go_num, rfl, HS, O3.out, B3.out, W3.out⟩


    · obtain rfl : k = n := by omega
      have i1 : ¬ (k : Int) < (k : Int) := by omega
      have htk : l.take k = l := List.take_of_length_le (by rw [HN.out]; omega)
      have HM2 := HM.out
      rw [htk] at HM2
      cases b
      · have HRS : Hid (res = M ++ [⟨pl, pk, pp⟩]) := by rw [Hid, ← HG.out]; unfold layG; rw [HM2]; rfl
        have HWA := Lib.hid (below_alloc HW.out (.cells #[.int .i64 pl, .slice A0 pk.length a0, .slice B0 pp.length b0] 36))
        have HX1 := Lib.hid (blk_new wr (.cells #[.int .i64 pl, .slice A0 pk.length a0, .slice B0 pp.length b0] 36))
        have HOA := Lib.hid (HO.out.below (below_alloc (Below.refl _ _) (.cells #[.int .i64 pl, .slice A0 pk.length a0, .slice B0 pp.length b0] 36)))
        have HPA := Lib.hid (old_el HP.out HWA.out HOA.out (Nat.le_succ _))
        clear htk HM2
        go_wp2_with (at_builtin; refine push (E := PeerE) 36 22 _ 56 rfl (.tmp 39) (.tmp 41) rfl Tryz.underlying22 info_peer rfl (by decide) (by decide) (by decide) (.slice AM M.length cM) M ⟨pl, pk, pp⟩ ([Value.int .i64 pl, .slice A0 pk.length a0, .slice B0 pp.length b0]) wr.heap.size 1 rfl rfl HOA.out HX1.out HPA.out (by have := HSZ.out; simp; omega) (by have := HML.out; omega) ?_ (fun _ h => h.elim); intro A3 c3 w3 o3 k3 n3; have O3 := Lib.hid o3; have W3 := Lib.hid (below_only HWA.out k3 (fun i hi => by have := HOA.out.base_le hi; omega)); clear o3 k3 n3)
        go_ret
        have hO := O3.out
        rw [← HRS.out] at hO
        obtain ⟨A4, c4, e, h4⟩ := hO.lst (N := fun _ => False) (fun _ _ h => h)
        refine ⟨A4, c4, ?_, h4, W3.out⟩
        show Ending.returned (Value.slice A3 (M.length + 1) c3) = _
        rw [← e]
      · have HRS : Hid (res = M) := by rw [Hid, ← HG.out]; unfold layG; rw [HM2]; rfl
        clear htk HM2
        go_wp2_with fail
        go_ret
        obtain ⟨A4, c4, e, h4⟩ := HO.out.lst (N := fun _ => False) (fun _ _ h => h)
        rw [HRS.out]
        refine ⟨A4, c4, ?_, h4, HW.out⟩
        show Ending.returned (Value.slice AM M.length cM) = _
        rw [e]

set_option maxRecDepth 100000 in
set_option maxHeartbeats 4000000 in
theorem layLane_any (A : Option Addr) (c : Nat) (l : List LaneD) (A0 : Option Addr) (a0 : Nat) (p : LaneD) (w : World) (hl : Lst LaneE w (fun _ => False) A c l) (hr : LaneE.R w (fun _ => False) ([Value.slice A0 p.key.length a0, .int .i64 p.side, .int .i64 p.cur, .int .i64 p.next, .int .u64 (p.sc : Int), .int .u64 (p.ceil : Int), .int .i64 p.sec, .int .i64 p.nano]) p) (hn : l.length ≤ 1000) :
    Calls Tryz.prog 97 #[.slice A l.length c, .agg ([Value.slice A0 p.key.length a0, .int .i64 p.side, .int .i64 p.cur, .int .i64 p.next, .int .u64 (p.sc : Int), .int .u64 (p.ceil : Int), .int .i64 p.sec, .int .i64 p.nano]).toArray] w (RetL LaneE w (layG ltL l p)) := by
  have HL := Lib.hid hl
  have h1 := hl.le
  have h2 := hl.max
  have HP := Lib.hid hr
  clear hl hr
  generalize hm : l.length = n at *
  have HN := Lib.hid hm
  clear hm
  generalize hg : layG ltL l p = res
  have HG := Lib.hid hg
  clear hg
  obtain ⟨pk, ps, pc, pn, pq, pe, pt, pu⟩ := p
  dsimp only at HP ⊢
  have HB0 := Lib.hid (blk_new w (.cells #[.slice A0 pk.length a0, .int .i64 ps, .int .i64 pc, .int .i64 pn, .int .u64 (pq : Int), .int .u64 (pe : Int), .int .i64 pt, .int .i64 pu] 43))
  go_enter Tryz.func97, Tryz.ntmps97
  go_wp2_with fail
  go_loopg [7, 5, 6] n (fun gk i s5 s6 wr => ∃ (k : Nat) (M : List LaneD) (b : Bool), k ≤ n ∧ gk = n - k ∧ i = .int .i64 (k : Int) ∧ s6 = .bool b ∧ Hid ((l.take k).foldl (layF ltL ⟨pk, ps, pc, pn, pq, pe, pt, pu⟩) ([], false) = (M, b)) ∧ OwnL LaneE 43 wr (fun _ => False) (w.heap.size + 1) s5 M ∧ wr.heap[w.heap.size]? = some (.cells #[.slice A0 pk.length a0, .int .i64 ps, .int .i64 pc, .int .i64 pn, .int .u64 (pq : Int), .int .u64 (pe : Int), .int .i64 pt, .int .i64 pu] 43 (0, 0)) ∧ Below w.heap.size w wr)
  case atStart => exact ⟨0, [], false, by omega, rfl, rfl, rfl, rfl, OwnL.nil _ _ _ _ _, HB0.out, (Below.refl _ _).alloc (Nat.le_refl _) _⟩
  case round =>
    obtain ⟨k, M, b, hk, rfl, rfl, rfl, HM, ho, hb, hbel⟩ := hrel
    obtain ⟨AM, cM, rfl⟩ := ho.slice
    have hlen := layF_len ltL ⟨pk, ps, pc, pn, pq, pe, pt, pu⟩ (l.take k) ([], false)
    rw [HM.out] at hlen
    have hml : M.length ≤ 1002 := by have := hlen.1; simp only [List.length_nil, List.length_take] at this; omega
    clear hlen
    have HML := Lib.hid hml
    have p0 : wr.cell? ⟨w.heap.size, 0, none⟩ = some (.slice A0 pk.length a0) := (blk_cell hb 0).trans rfl
    have p1 : wr.cell? ⟨w.heap.size, 1, none⟩ = some (.int .i64 ps) := (blk_cell hb 1).trans rfl
    have p2 : wr.cell? ⟨w.heap.size, 2, none⟩ = some (.int .i64 pc) := (blk_cell hb 2).trans rfl
    have p3 : wr.cell? ⟨w.heap.size, 3, none⟩ = some (.int .i64 pn) := (blk_cell hb 3).trans rfl
    have p4 : wr.cell? ⟨w.heap.size, 4, none⟩ = some (.int .u64 (pq : Int)) := (blk_cell hb 4).trans rfl
    have p5 : wr.cell? ⟨w.heap.size, 5, none⟩ = some (.int .u64 (pe : Int)) := (blk_cell hb 5).trans rfl
    have p6 : wr.cell? ⟨w.heap.size, 6, none⟩ = some (.int .i64 pt) := (blk_cell hb 6).trans rfl
    have p7 : wr.cell? ⟨w.heap.size, 7, none⟩ = some (.int .i64 pu) := (blk_cell hb 7).trans rfl
    have HO := Lib.hid ho
    have HB := Lib.hid hb
    have HW := Lib.hid hbel
    have hsz : w.heap.size + 1 ≤ wr.heap.size := blk_lt hb
    have HSZ := Lib.hid hsz
    clear ho hb hbel hsz hml
    by_cases hlt : k < n
    · have i1 : (k : Int) < (n : Int) := by omega
      have i0 : (0 : Int) ≤ (k : Int) := by omega
      have HST := Lib.hid (lay_step ltL ⟨pk, ps, pc, pn, pq, pe, pt, pu⟩ zeroLane l k (by rw [HN.out]; exact hlt))
      rw [HM.out] at HST
      obtain ⟨bk, off, raw, rfl, hbk, -, hc, hR⟩ := HL.out.at_ k _ (getD_get zeroLane (by rw [HN.out]; exact hlt))
      obtain ⟨⟨xk, xs, xc, xn, xq, xe, xt, xu⟩, hx⟩ : ∃ y, l.getD k zeroLane = y := ⟨_, rfl⟩
      rw [hx] at hR HST
      have hR2 := hR
      obtain ⟨A1, a1, rfl, -, -⟩ := hR
      have hRX : LaneE.R w (fun _ => False) ([Value.slice A1 xk.length a1, .int .i64 xs, .int .i64 xc, .int .i64 xn, .int .u64 (xq : Int), .int .u64 (xe : Int), .int .i64 xt, .int .i64 xu]) ⟨xk, xs, xc, xn, xq, xe, xt, xu⟩ := hR2
      have HRX := Lib.hid hRX
      have x0 : wr.cell? ⟨bk, off + k * 8, none⟩ = some (.slice A1 xk.length a1) := (HW.out.cell (p := ⟨bk, _, none⟩) hbk).trans (hc 0 (by decide))
      have x1 : wr.cell? ⟨bk, off + k * 8 + 1, none⟩ = some (.int .i64 xs) := (HW.out.cell (p := ⟨bk, _, none⟩) hbk).trans (hc 1 (by decide))
      have x2 : wr.cell? ⟨bk, off + k * 8 + 2, none⟩ = some (.int .i64 xc) := (HW.out.cell (p := ⟨bk, _, none⟩) hbk).trans (hc 2 (by decide))
      have x3 : wr.cell? ⟨bk, off + k * 8 + 3, none⟩ = some (.int .i64 xn) := (HW.out.cell (p := ⟨bk, _, none⟩) hbk).trans (hc 3 (by decide))
      have x4 : wr.cell? ⟨bk, off + k * 8 + 4, none⟩ = some (.int .u64 (xq : Int)) := (HW.out.cell (p := ⟨bk, _, none⟩) hbk).trans (hc 4 (by decide))
      have x5 : wr.cell? ⟨bk, off + k * 8 + 5, none⟩ = some (.int .u64 (xe : Int)) := (HW.out.cell (p := ⟨bk, _, none⟩) hbk).trans (hc 5 (by decide))
      have x6 : wr.cell? ⟨bk, off + k * 8 + 6, none⟩ = some (.int .i64 xt) := (HW.out.cell (p := ⟨bk, _, none⟩) hbk).trans (hc 6 (by decide))
      have x7 : wr.cell? ⟨bk, off + k * 8 + 7, none⟩ = some (.int .i64 xu) := (HW.out.cell (p := ⟨bk, _, none⟩) hbk).trans (hc 7 (by decide))
      clear hc hR2 hx hRX
      have VL := Lib.hid (fun n => less_any A0 A1 a0 a1 pk xk (wr.drewN n) (((lane_key HP.out).1.below HW.out).drewN n) (((lane_key HRX.out).1.below HW.out).drewN n))
      cases b
      · by_cases hlk : lessB pk xk = true
        · have hs := HST.out
          rw [layF_yes (by unfold ltL; exact hlk)] at hs
          rw [hlk] at VL
          have HS := Lib.hid hs
          clear hs hlk
          go_wp2_with fail
          go_quiet ((go_at_call 115; exact quiet_at0 (VL.out _)))
          obtain ⟨wq, hwq⟩ : ∃ W, W = wr.drewN nq := ⟨_, rfl⟩
          rw [← hwq]
          have HOq : Hid (OwnL LaneE 43 wq (fun _ => False) (w.heap.size + 1) (.slice AM M.length cM) M) := by rw [hwq]; exact HO.out.drewN nq
          have HBq : Hid (wq.heap[w.heap.size]? = some (.cells #[.slice A0 pk.length a0, .int .i64 ps, .int .i64 pc, .int .i64 pn, .int .u64 (pq : Int), .int .u64 (pe : Int), .int .i64 pt, .int .i64 pu] 43 (0, 0))) := by rw [hwq]; exact HB.out
          have HWq : Hid (Below w.heap.size w wq) := by rw [hwq]; exact below_drewN HW.out nq
          have HSQ : Hid (w.heap.size + 1 ≤ wq.heap.size) := Lib.hid (blk_lt HBq.out)
          have p0q : wq.cell? ⟨w.heap.size, 0, none⟩ = some (.slice A0 pk.length a0) := (blk_cell HBq.out 0).trans rfl
          have p1q : wq.cell? ⟨w.heap.size, 1, none⟩ = some (.int .i64 ps) := (blk_cell HBq.out 1).trans rfl
          have p2q : wq.cell? ⟨w.heap.size, 2, none⟩ = some (.int .i64 pc) := (blk_cell HBq.out 2).trans rfl
          have p3q : wq.cell? ⟨w.heap.size, 3, none⟩ = some (.int .i64 pn) := (blk_cell HBq.out 3).trans rfl
          have p4q : wq.cell? ⟨w.heap.size, 4, none⟩ = some (.int .u64 (pq : Int)) := (blk_cell HBq.out 4).trans rfl
          have p5q : wq.cell? ⟨w.heap.size, 5, none⟩ = some (.int .u64 (pe : Int)) := (blk_cell HBq.out 5).trans rfl
          have p6q : wq.cell? ⟨w.heap.size, 6, none⟩ = some (.int .i64 pt) := (blk_cell HBq.out 6).trans rfl
          have p7q : wq.cell? ⟨w.heap.size, 7, none⟩ = some (.int .i64 pu) := (blk_cell HBq.out 7).trans rfl
          have x0q : wq.cell? ⟨bk, off + k * 8, none⟩ = some (.slice A1 xk.length a1) := by rw [hwq]; exact x0
          have x1q : wq.cell? ⟨bk, off + k * 8 + 1, none⟩ = some (.int .i64 xs) := by rw [hwq]; exact x1
          have x2q : wq.cell? ⟨bk, off + k * 8 + 2, none⟩ = some (.int .i64 xc) := by rw [hwq]; exact x2
          have x3q : wq.cell? ⟨bk, off + k * 8 + 3, none⟩ = some (.int .i64 xn) := by rw [hwq]; exact x3
          have x4q : wq.cell? ⟨bk, off + k * 8 + 4, none⟩ = some (.int .u64 (xq : Int)) := by rw [hwq]; exact x4
          have x5q : wq.cell? ⟨bk, off + k * 8 + 5, none⟩ = some (.int .u64 (xe : Int)) := by rw [hwq]; exact x5
          have x6q : wq.cell? ⟨bk, off + k * 8 + 6, none⟩ = some (.int .i64 xt) := by rw [hwq]; exact x6
          have x7q : wq.cell? ⟨bk, off + k * 8 + 7, none⟩ = some (.int .i64 xu) := by rw [hwq]; exact x7
          clear hwq
          have HWP := Lib.hid (below_alloc HWq.out (.cells #[.slice A0 pk.length a0, .int .i64 ps, .int .i64 pc, .int .i64 pn, .int .u64 (pq : Int), .int .u64 (pe : Int), .int .i64 pt, .int .i64 pu] 43))
          have HP1 := Lib.hid (blk_new wq (.cells #[.slice A0 pk.length a0, .int .i64 ps, .int .i64 pc, .int .i64 pn, .int .u64 (pq : Int), .int .u64 (pe : Int), .int .i64 pt, .int .i64 pu] 43))
          have HOP := Lib.hid (HOq.out.below (below_alloc (Below.refl _ _) (.cells #[.slice A0 pk.length a0, .int .i64 ps, .int .i64 pc, .int .i64 pn, .int .u64 (pq : Int), .int .u64 (pe : Int), .int .i64 pt, .int .i64 pu] 43)))
          have HBP := Lib.hid (blk_alloc HBq.out (.cells #[.slice A0 pk.length a0, .int .i64 ps, .int .i64 pc, .int .i64 pn, .int .u64 (pq : Int), .int .u64 (pe : Int), .int .i64 pt, .int .i64 pu] 43))
          have HPA := Lib.hid (old_el HP.out HWP.out HOP.out (Nat.le_succ _))
          go_wp2_with (first
          | (at_builtin; refine push (E := LaneE) 43 23 _ 80 rfl (.tmp 26) (.tmp 28) rfl Tryz.underlying23 info_lane rfl (by decide) (by decide) (by decide) (.slice AM M.length cM) M ⟨pk, ps, pc, pn, pq, pe, pt, pu⟩ ([Value.slice A0 pk.length a0, .int .i64 ps, .int .i64 pc, .int .i64 pn, .int .u64 (pq : Int), .int .u64 (pe : Int), .int .i64 pt, .int .i64 pu]) wq.heap.size 1 rfl rfl HOP.out HP1.out HPA.out (by have := HSQ.out; simp; omega) (by have := HML.out; omega) ?_ (fun _ h => h.elim); intro A2 c2 w2 o2 k2 n2; have W2 := Lib.hid (below_only HWP.out k2 (fun i hi => by have := HOP.out.base_le hi; omega)); have B2 := Lib.hid (k2.blk HBP.out (fun h => by have := HOP.out.base_le h; omega)); have y0 : w2.cell? ⟨bk, off + k * 8, none⟩ = some (.slice A1 xk.length a1) := (W2.out.cell (p := ⟨bk, _, none⟩) hbk).trans ((HWq.out.cell (p := ⟨bk, _, none⟩) hbk).symm.trans x0q); have y1 : w2.cell? ⟨bk, off + k * 8 + 1, none⟩ = some (.int .i64 xs) := (W2.out.cell (p := ⟨bk, _, none⟩) hbk).trans ((HWq.out.cell (p := ⟨bk, _, none⟩) hbk).symm.trans x1q); have y2 : w2.cell? ⟨bk, off + k * 8 + 2, none⟩ = some (.int .i64 xc) := (W2.out.cell (p := ⟨bk, _, none⟩) hbk).trans ((HWq.out.cell (p := ⟨bk, _, none⟩) hbk).symm.trans x2q); have y3 : w2.cell? ⟨bk, off + k * 8 + 3, none⟩ = some (.int .i64 xn) := (W2.out.cell (p := ⟨bk, _, none⟩) hbk).trans ((HWq.out.cell (p := ⟨bk, _, none⟩) hbk).symm.trans x3q); have y4 : w2.cell? ⟨bk, off + k * 8 + 4, none⟩ = some (.int .u64 (xq : Int)) := (W2.out.cell (p := ⟨bk, _, none⟩) hbk).trans ((HWq.out.cell (p := ⟨bk, _, none⟩) hbk).symm.trans x4q); have y5 : w2.cell? ⟨bk, off + k * 8 + 5, none⟩ = some (.int .u64 (xe : Int)) := (W2.out.cell (p := ⟨bk, _, none⟩) hbk).trans ((HWq.out.cell (p := ⟨bk, _, none⟩) hbk).symm.trans x5q); have y6 : w2.cell? ⟨bk, off + k * 8 + 6, none⟩ = some (.int .i64 xt) := (W2.out.cell (p := ⟨bk, _, none⟩) hbk).trans ((HWq.out.cell (p := ⟨bk, _, none⟩) hbk).symm.trans x6q); have y7 : w2.cell? ⟨bk, off + k * 8 + 7, none⟩ = some (.int .i64 xu) := (W2.out.cell (p := ⟨bk, _, none⟩) hbk).trans ((HWq.out.cell (p := ⟨bk, _, none⟩) hbk).symm.trans x7q); have S2 := Lib.hid (blk_lt B2.out); have W2A := Lib.hid (below_alloc W2.out (.cells #[.slice A1 xk.length a1, .int .i64 xs, .int .i64 xc, .int .i64 xn, .int .u64 (xq : Int), .int .u64 (xe : Int), .int .i64 xt, .int .i64 xu] 43)); have X2 := Lib.hid (blk_new w2 (.cells #[.slice A1 xk.length a1, .int .i64 xs, .int .i64 xc, .int .i64 xn, .int .u64 (xq : Int), .int .u64 (xe : Int), .int .i64 xt, .int .i64 xu] 43)); have O2A := Lib.hid (o2.below (below_alloc (Below.refl _ _) (.cells #[.slice A1 xk.length a1, .int .i64 xs, .int .i64 xc, .int .i64 xn, .int .u64 (xq : Int), .int .u64 (xe : Int), .int .i64 xt, .int .i64 xu] 43))); have B2A := Lib.hid (blk_alloc B2.out (.cells #[.slice A1 xk.length a1, .int .i64 xs, .int .i64 xc, .int .i64 xn, .int .u64 (xq : Int), .int .u64 (xe : Int), .int .i64 xt, .int .i64 xu] 43)); have R2A := Lib.hid (old_el HRX.out W2A.out O2A.out (Nat.le_succ _)); clear o2 k2 n2)
          | (at_builtin; refine push (E := LaneE) 43 23 _ 80 rfl (.tmp 30) (.tmp 35) rfl Tryz.underlying23 info_lane rfl (by decide) (by decide) (by decide) (.slice A2 (M.length + 1) c2) (M ++ [⟨pk, ps, pc, pn, pq, pe, pt, pu⟩]) ⟨xk, xs, xc, xn, xq, xe, xt, xu⟩ ([Value.slice A1 xk.length a1, .int .i64 xs, .int .i64 xc, .int .i64 xn, .int .u64 (xq : Int), .int .u64 (xe : Int), .int .i64 xt, .int .i64 xu]) w2.heap.size 1 rfl rfl O2A.out X2.out R2A.out (by have := S2.out; simp; omega) (by have := HML.out; simp; omega) ?_ (fun _ h => h.elim); intro A3 c3 w3 o3 k3 n3; have O3 := Lib.hid o3; have W3 := Lib.hid (below_only W2A.out k3 (fun i hi => by have := O2A.out.base_le hi; omega)); have B3 := Lib.hid (k3.blk B2A.out (fun h => by have := O2A.out.base_le h; omega)); clear o3 k3 n3))
          go_roundg (n - (k + 1))
          case measure => omega
          case rel => exact ⟨k + 1, M ++ [⟨pk, ps, pc, pn, pq, pe, pt, pu⟩, ⟨xk, xs, xc, xn, xq, xe, xt, xu⟩], true, by omega, rfl, by go_num, rfl, HS, by have h := O3.out; rw [List.append_assoc] at h; simpa using h, B3.out, W3.out⟩

        · have hl2 : lessB pk xk = false := by simpa using hlk
          have hs := HST.out
          rw [layF_no (.inr (by unfold ltL; exact hl2))] at hs
          rw [hl2] at VL
          have HS := Lib.hid hs
          clear hs hlk hl2
          go_wp2_with fail
          go_quiet ((go_at_call 115; exact quiet_at0 (VL.out _)))
          obtain ⟨wq, hwq⟩ : ∃ W, W = wr.drewN nq := ⟨_, rfl⟩
          rw [← hwq]
          have HOq : Hid (OwnL LaneE 43 wq (fun _ => False) (w.heap.size + 1) (.slice AM M.length cM) M) := by rw [hwq]; exact HO.out.drewN nq
          have HBq : Hid (wq.heap[w.heap.size]? = some (.cells #[.slice A0 pk.length a0, .int .i64 ps, .int .i64 pc, .int .i64 pn, .int .u64 (pq : Int), .int .u64 (pe : Int), .int .i64 pt, .int .i64 pu] 43 (0, 0))) := by rw [hwq]; exact HB.out
          have HWq : Hid (Below w.heap.size w wq) := by rw [hwq]; exact below_drewN HW.out nq
          have HSQ : Hid (w.heap.size + 1 ≤ wq.heap.size) := Lib.hid (blk_lt HBq.out)
          have p0q : wq.cell? ⟨w.heap.size, 0, none⟩ = some (.slice A0 pk.length a0) := (blk_cell HBq.out 0).trans rfl
          have p1q : wq.cell? ⟨w.heap.size, 1, none⟩ = some (.int .i64 ps) := (blk_cell HBq.out 1).trans rfl
          have p2q : wq.cell? ⟨w.heap.size, 2, none⟩ = some (.int .i64 pc) := (blk_cell HBq.out 2).trans rfl
          have p3q : wq.cell? ⟨w.heap.size, 3, none⟩ = some (.int .i64 pn) := (blk_cell HBq.out 3).trans rfl
          have p4q : wq.cell? ⟨w.heap.size, 4, none⟩ = some (.int .u64 (pq : Int)) := (blk_cell HBq.out 4).trans rfl
          have p5q : wq.cell? ⟨w.heap.size, 5, none⟩ = some (.int .u64 (pe : Int)) := (blk_cell HBq.out 5).trans rfl
          have p6q : wq.cell? ⟨w.heap.size, 6, none⟩ = some (.int .i64 pt) := (blk_cell HBq.out 6).trans rfl
          have p7q : wq.cell? ⟨w.heap.size, 7, none⟩ = some (.int .i64 pu) := (blk_cell HBq.out 7).trans rfl
          have x0q : wq.cell? ⟨bk, off + k * 8, none⟩ = some (.slice A1 xk.length a1) := by rw [hwq]; exact x0
          have x1q : wq.cell? ⟨bk, off + k * 8 + 1, none⟩ = some (.int .i64 xs) := by rw [hwq]; exact x1
          have x2q : wq.cell? ⟨bk, off + k * 8 + 2, none⟩ = some (.int .i64 xc) := by rw [hwq]; exact x2
          have x3q : wq.cell? ⟨bk, off + k * 8 + 3, none⟩ = some (.int .i64 xn) := by rw [hwq]; exact x3
          have x4q : wq.cell? ⟨bk, off + k * 8 + 4, none⟩ = some (.int .u64 (xq : Int)) := by rw [hwq]; exact x4
          have x5q : wq.cell? ⟨bk, off + k * 8 + 5, none⟩ = some (.int .u64 (xe : Int)) := by rw [hwq]; exact x5
          have x6q : wq.cell? ⟨bk, off + k * 8 + 6, none⟩ = some (.int .i64 xt) := by rw [hwq]; exact x6
          have x7q : wq.cell? ⟨bk, off + k * 8 + 7, none⟩ = some (.int .i64 xu) := by rw [hwq]; exact x7
          clear hwq
          have HWA := Lib.hid (below_alloc HWq.out (.cells #[.slice A1 xk.length a1, .int .i64 xs, .int .i64 xc, .int .i64 xn, .int .u64 (xq : Int), .int .u64 (xe : Int), .int .i64 xt, .int .i64 xu] 43))
          have HX1 := Lib.hid (blk_new wq (.cells #[.slice A1 xk.length a1, .int .i64 xs, .int .i64 xc, .int .i64 xn, .int .u64 (xq : Int), .int .u64 (xe : Int), .int .i64 xt, .int .i64 xu] 43))
          have HOA := Lib.hid (HOq.out.below (below_alloc (Below.refl _ _) (.cells #[.slice A1 xk.length a1, .int .i64 xs, .int .i64 xc, .int .i64 xn, .int .u64 (xq : Int), .int .u64 (xe : Int), .int .i64 xt, .int .i64 xu] 43)))
          have HBA := Lib.hid (blk_alloc HBq.out (.cells #[.slice A1 xk.length a1, .int .i64 xs, .int .i64 xc, .int .i64 xn, .int .u64 (xq : Int), .int .u64 (xe : Int), .int .i64 xt, .int .i64 xu] 43))
          have HXA := Lib.hid (old_el HRX.out HWA.out HOA.out (Nat.le_succ _))
          go_wp2_with (at_builtin; refine push (E := LaneE) 43 23 _ 80 rfl (.tmp 30) (.tmp 35) rfl Tryz.underlying23 info_lane rfl (by decide) (by decide) (by decide) (.slice AM M.length cM) M ⟨xk, xs, xc, xn, xq, xe, xt, xu⟩ ([Value.slice A1 xk.length a1, .int .i64 xs, .int .i64 xc, .int .i64 xn, .int .u64 (xq : Int), .int .u64 (xe : Int), .int .i64 xt, .int .i64 xu]) wq.heap.size 1 rfl rfl (HOA.out) HX1.out HXA.out (by have := HSQ.out; simp; omega) (by have := HML.out; omega) ?_ (fun _ h => h.elim); intro A3 c3 w3 o3 k3 n3; have O3 := Lib.hid o3; have W3 := Lib.hid (below_only HWA.out k3 (fun i hi => by have := (HOA.out).base_le hi; omega)); have B3 := Lib.hid (k3.blk HBA.out (fun h => by have := (HOA.out).base_le h; omega)); clear o3 k3 n3)
          go_roundg (n - (k + 1))
          case measure => omega
          case rel => exact ⟨k + 1, M ++ [⟨xk, xs, xc, xn, xq, xe, xt, xu⟩], false, by omega, rfl, by go_num, rfl, HS, O3.out, B3.out, W3.out⟩

      · have hs := HST.out
        rw [layF_no (.inl rfl)] at hs
        have HS := Lib.hid hs
        clear hs
        go_wp2_with fail
        go_quiet (fail)
        obtain ⟨wq, hwq⟩ : ∃ W, W = wr.drewN nq := ⟨_, rfl⟩
        rw [← hwq]
        have HOq : Hid (OwnL LaneE 43 wq (fun _ => False) (w.heap.size + 1) (.slice AM M.length cM) M) := by rw [hwq]; exact HO.out.drewN nq
        have HBq : Hid (wq.heap[w.heap.size]? = some (.cells #[.slice A0 pk.length a0, .int .i64 ps, .int .i64 pc, .int .i64 pn, .int .u64 (pq : Int), .int .u64 (pe : Int), .int .i64 pt, .int .i64 pu] 43 (0, 0))) := by rw [hwq]; exact HB.out
        have HWq : Hid (Below w.heap.size w wq) := by rw [hwq]; exact below_drewN HW.out nq
        have HSQ : Hid (w.heap.size + 1 ≤ wq.heap.size) := Lib.hid (blk_lt HBq.out)
        have p0q : wq.cell? ⟨w.heap.size, 0, none⟩ = some (.slice A0 pk.length a0) := (blk_cell HBq.out 0).trans rfl
        have p1q : wq.cell? ⟨w.heap.size, 1, none⟩ = some (.int .i64 ps) := (blk_cell HBq.out 1).trans rfl
        have p2q : wq.cell? ⟨w.heap.size, 2, none⟩ = some (.int .i64 pc) := (blk_cell HBq.out 2).trans rfl
        have p3q : wq.cell? ⟨w.heap.size, 3, none⟩ = some (.int .i64 pn) := (blk_cell HBq.out 3).trans rfl
        have p4q : wq.cell? ⟨w.heap.size, 4, none⟩ = some (.int .u64 (pq : Int)) := (blk_cell HBq.out 4).trans rfl
        have p5q : wq.cell? ⟨w.heap.size, 5, none⟩ = some (.int .u64 (pe : Int)) := (blk_cell HBq.out 5).trans rfl
        have p6q : wq.cell? ⟨w.heap.size, 6, none⟩ = some (.int .i64 pt) := (blk_cell HBq.out 6).trans rfl
        have p7q : wq.cell? ⟨w.heap.size, 7, none⟩ = some (.int .i64 pu) := (blk_cell HBq.out 7).trans rfl
        have x0q : wq.cell? ⟨bk, off + k * 8, none⟩ = some (.slice A1 xk.length a1) := by rw [hwq]; exact x0
        have x1q : wq.cell? ⟨bk, off + k * 8 + 1, none⟩ = some (.int .i64 xs) := by rw [hwq]; exact x1
        have x2q : wq.cell? ⟨bk, off + k * 8 + 2, none⟩ = some (.int .i64 xc) := by rw [hwq]; exact x2
        have x3q : wq.cell? ⟨bk, off + k * 8 + 3, none⟩ = some (.int .i64 xn) := by rw [hwq]; exact x3
        have x4q : wq.cell? ⟨bk, off + k * 8 + 4, none⟩ = some (.int .u64 (xq : Int)) := by rw [hwq]; exact x4
        have x5q : wq.cell? ⟨bk, off + k * 8 + 5, none⟩ = some (.int .u64 (xe : Int)) := by rw [hwq]; exact x5
        have x6q : wq.cell? ⟨bk, off + k * 8 + 6, none⟩ = some (.int .i64 xt) := by rw [hwq]; exact x6
        have x7q : wq.cell? ⟨bk, off + k * 8 + 7, none⟩ = some (.int .i64 xu) := by rw [hwq]; exact x7
        clear hwq
        have HWA := Lib.hid (below_alloc HWq.out (.cells #[.slice A1 xk.length a1, .int .i64 xs, .int .i64 xc, .int .i64 xn, .int .u64 (xq : Int), .int .u64 (xe : Int), .int .i64 xt, .int .i64 xu] 43))
        have HX1 := Lib.hid (blk_new wq (.cells #[.slice A1 xk.length a1, .int .i64 xs, .int .i64 xc, .int .i64 xn, .int .u64 (xq : Int), .int .u64 (xe : Int), .int .i64 xt, .int .i64 xu] 43))
        have HOA := Lib.hid (HOq.out.below (below_alloc (Below.refl _ _) (.cells #[.slice A1 xk.length a1, .int .i64 xs, .int .i64 xc, .int .i64 xn, .int .u64 (xq : Int), .int .u64 (xe : Int), .int .i64 xt, .int .i64 xu] 43)))
        have HBA := Lib.hid (blk_alloc HBq.out (.cells #[.slice A1 xk.length a1, .int .i64 xs, .int .i64 xc, .int .i64 xn, .int .u64 (xq : Int), .int .u64 (xe : Int), .int .i64 xt, .int .i64 xu] 43))
        have HXA := Lib.hid (old_el HRX.out HWA.out HOA.out (Nat.le_succ _))
        go_wp2_with (at_builtin; refine push (E := LaneE) 43 23 _ 80 rfl (.tmp 30) (.tmp 35) rfl Tryz.underlying23 info_lane rfl (by decide) (by decide) (by decide) (.slice AM M.length cM) M ⟨xk, xs, xc, xn, xq, xe, xt, xu⟩ ([Value.slice A1 xk.length a1, .int .i64 xs, .int .i64 xc, .int .i64 xn, .int .u64 (xq : Int), .int .u64 (xe : Int), .int .i64 xt, .int .i64 xu]) wq.heap.size 1 rfl rfl (HOA.out) HX1.out HXA.out (by have := HSQ.out; simp; omega) (by have := HML.out; omega) ?_ (fun _ h => h.elim); intro A3 c3 w3 o3 k3 n3; have O3 := Lib.hid o3; have W3 := Lib.hid (below_only HWA.out k3 (fun i hi => by have := (HOA.out).base_le hi; omega)); have B3 := Lib.hid (k3.blk HBA.out (fun h => by have := (HOA.out).base_le h; omega)); clear o3 k3 n3)
        go_roundg (n - (k + 1))
        case measure => omega
        case rel => exact ⟨k + 1, M ++ [⟨xk, xs, xc, xn, xq, xe, xt, xu⟩], true, by omega, rfl, by go_num, rfl, HS, O3.out, B3.out, W3.out⟩


    · obtain rfl : k = n := by omega
      have i1 : ¬ (k : Int) < (k : Int) := by omega
      have htk : l.take k = l := List.take_of_length_le (by rw [HN.out]; omega)
      have HM2 := HM.out
      rw [htk] at HM2
      cases b
      · have HRS : Hid (res = M ++ [⟨pk, ps, pc, pn, pq, pe, pt, pu⟩]) := by rw [Hid, ← HG.out]; unfold layG; rw [HM2]; rfl
        have HWA := Lib.hid (below_alloc HW.out (.cells #[.slice A0 pk.length a0, .int .i64 ps, .int .i64 pc, .int .i64 pn, .int .u64 (pq : Int), .int .u64 (pe : Int), .int .i64 pt, .int .i64 pu] 43))
        have HX1 := Lib.hid (blk_new wr (.cells #[.slice A0 pk.length a0, .int .i64 ps, .int .i64 pc, .int .i64 pn, .int .u64 (pq : Int), .int .u64 (pe : Int), .int .i64 pt, .int .i64 pu] 43))
        have HOA := Lib.hid (HO.out.below (below_alloc (Below.refl _ _) (.cells #[.slice A0 pk.length a0, .int .i64 ps, .int .i64 pc, .int .i64 pn, .int .u64 (pq : Int), .int .u64 (pe : Int), .int .i64 pt, .int .i64 pu] 43)))
        have HPA := Lib.hid (old_el HP.out HWA.out HOA.out (Nat.le_succ _))
        clear htk HM2
        go_wp2_with (at_builtin; refine push (E := LaneE) 43 23 _ 80 rfl (.tmp 39) (.tmp 41) rfl Tryz.underlying23 info_lane rfl (by decide) (by decide) (by decide) (.slice AM M.length cM) M ⟨pk, ps, pc, pn, pq, pe, pt, pu⟩ ([Value.slice A0 pk.length a0, .int .i64 ps, .int .i64 pc, .int .i64 pn, .int .u64 (pq : Int), .int .u64 (pe : Int), .int .i64 pt, .int .i64 pu]) wr.heap.size 1 rfl rfl HOA.out HX1.out HPA.out (by have := HSZ.out; simp; omega) (by have := HML.out; omega) ?_ (fun _ h => h.elim); intro A3 c3 w3 o3 k3 n3; have O3 := Lib.hid o3; have W3 := Lib.hid (below_only HWA.out k3 (fun i hi => by have := HOA.out.base_le hi; omega)); clear o3 k3 n3)
        go_ret
        have hO := O3.out
        rw [← HRS.out] at hO
        obtain ⟨A4, c4, e, h4⟩ := hO.lst (N := fun _ => False) (fun _ _ h => h)
        refine ⟨A4, c4, ?_, h4, W3.out⟩
        show Ending.returned (Value.slice A3 (M.length + 1) c3) = _
        rw [← e]
      · have HRS : Hid (res = M) := by rw [Hid, ← HG.out]; unfold layG; rw [HM2]; rfl
        clear htk HM2
        go_wp2_with fail
        go_ret
        obtain ⟨A4, c4, e, h4⟩ := HO.out.lst (N := fun _ => False) (fun _ _ h => h)
        rw [HRS.out]
        refine ⟨A4, c4, ?_, h4, HW.out⟩
        show Ending.returned (Value.slice AM M.length cM) = _
        rw [e]

end Go.Proofs.YtafdhccdjbfepaaGreat.Lst
/- The walks of the document's SameAddr, SamePrefix, shares and whole. -/
namespace Go.Proofs.YtafdhccdjbfepaaGreat.Lst
open Go.RowKit Go.Proofs.YtafdhccdjbfepaaGreat.K Go.Proofs.YtafdhccdjbfepaaGreat.Help Go.Proofs.YtafdhccdjbfepaaGreat.Pfx Go.Proofs.YtafdhccdjbfepaaGreat.Peer
set_option linter.unusedVariables false

/-- w's memory stands as it stood -/
def Since (w W : World) : Prop := Below w.heap.size w W
theorem Since.step {w : World} : ∀ W W' : World, Since w W → Below W.heap.size W W' → Since w W' := fun _ _ h hb => below_step h hb
theorem Since.refl (w : World) : Since w w := Below.refl _ _
theorem Since.drew {w W : World} (h : Below w.heap.size w W) : Since w (W.drewN 1) := below_drewN h 1
instance {w : World} : Nonempty (Cls (Since w)) := ⟨⟨w, Since.refl w⟩⟩
theorem Since.cell {w : World} {b o : Nat} {v : Value} (h : w.cell? ⟨b, o, none⟩ = some v) (hb : b < w.heap.size) : ∀ p : Cls (Since w), p.W.cell? ⟨b, o, none⟩ = some v := fun p => (Below.cell (p := ⟨b, o, none⟩) p.ok hb).trans h
theorem Since.bytes {w : World} {A B : Option Addr} {c d : Nat} {l m : List UInt8} (h1 : Bs w A c l) (h2 : Bs w B d m) : ∀ p : Cls (Since w), Calls Tryz.prog 34 #[.slice A l.length c, .slice B m.length d] p.W (Pure p.W (.bool (decide (l = m)))) :=
  fun p => (sameBytes A B c d l m p.W (h1.below p.ok) (h2.below p.ok)).mono fun _ _ h => quiet_pure h

set_option maxRecDepth 100000 in
set_option maxHeartbeats 1000000 in
theorem sameAddr_any (f1 f2 : Int) (h1 l1 h2 l2 : Nat) (w : World) :
    Calls Tryz.prog 144 #[.agg #[.int .i64 f1, .int .u64 (h1 : Int), .int .u64 (l1 : Int)], .agg #[.int .i64 f2, .int .u64 (h2 : Int), .int .u64 (l2 : Int)]] w (Pure w (.bool (decide (f1 = f2 ∧ h1 = h2 ∧ l1 = l2)))) := by
  have hB := Lib.hid (below_alloc (below_alloc (Below.refl w.heap.size w) (.cells #[.int .i64 f1, .int .u64 (h1 : Int), .int .u64 (l1 : Int)] 108)) (.cells #[.int .i64 f2, .int .u64 (h2 : Int), .int .u64 (l2 : Int)] 108))
  by_cases g1 : f1 = f2
  · by_cases g2 : h1 = h2
    · by_cases g3 : l1 = l2
      · rw [decide_eq_true (show f1 = f2 ∧ h1 = h2 ∧ l1 = l2 from ⟨g1, g2, g3⟩)]
        subst g1 g2 g3
        exact sameAddr_self f1 h1 l1 w
      · rw [decide_eq_false (show ¬ (f1 = f2 ∧ h1 = h2 ∧ l1 = l2) from fun h => g3 h.2.2)]
        have e3 : ((l1 : Int) == l2) = false := by rw [beq_eq_false_iff_ne]; omega
        subst g1 g2
        clear g3
        go_enter Tryz.func144, Tryz.ntmps144
        go_wp2_with fail
        try go_quiet (fail)
        go_wp2_with fail
        go_ret
        exact ⟨rfl, by first | exact hB.out | exact below_drewN hB.out _⟩
    · rw [decide_eq_false (show ¬ (f1 = f2 ∧ h1 = h2 ∧ l1 = l2) from fun h => g2 h.2.1)]
      have e2 : ((h1 : Int) == h2) = false := by rw [beq_eq_false_iff_ne]; omega
      subst g1
      clear g2
      go_enter Tryz.func144, Tryz.ntmps144
      go_wp2_with fail
      try go_quiet (fail)
      go_wp2_with fail
      go_ret
      exact ⟨rfl, by first | exact hB.out | exact below_drewN hB.out _⟩
  · rw [decide_eq_false (show ¬ (f1 = f2 ∧ h1 = h2 ∧ l1 = l2) from fun h => g1 h.1)]
    have e1 : (f1 == f2) = false := by rw [beq_eq_false_iff_ne]; exact g1
    clear g1
    go_enter Tryz.func144, Tryz.ntmps144
    go_wp2_with fail
    try go_quiet (fail)
    go_wp2_with fail
    go_ret
    exact ⟨rfl, by first | exact hB.out | exact below_drewN hB.out _⟩
set_option maxRecDepth 100000 in
set_option maxHeartbeats 1000000 in
theorem samePrefix_any (x y : PfxI) (w : World) :
    Calls Tryz.prog 119 #[.agg #[.int .i64 x.1, .int .u64 (x.2.1 : Int), .int .u64 (x.2.2.1 : Int), .int .i64 x.2.2.2], .agg #[.int .i64 y.1, .int .u64 (y.2.1 : Int), .int .u64 (y.2.2.1 : Int), .int .i64 y.2.2.2]] w (Pure w (.bool (decide (x = y)))) := by
  obtain ⟨f1, h1, l1, b1⟩ := x
  obtain ⟨f2, h2, l2, b2⟩ := y
  dsimp only
  have V := Lib.hid (fun W => sameAddr_any f1 f2 h1 l1 h2 l2 W)
  have H0 := Lib.hid (TwoC.start 110 110 w #[.int .i64 f1, .int .u64 (h1 : Int), .int .u64 (l1 : Int), .int .i64 b1] #[.int .i64 f2, .int .u64 (h2 : Int), .int .u64 (l2 : Int), .int .i64 b2])
  obtain ⟨t, ht⟩ : ∃ t, decide ((f1, h1, l1, b1) = (f2, h2, l2, b2)) = t := ⟨_, rfl⟩
  rw [ht]
  have e0 : (decide (f1 = f2 ∧ h1 = h2 ∧ l1 = l2) && (b1 == b2)) = t := by
    rw [← ht, Bool.eq_iff_iff]
    simp [Prod.mk.injEq, and_assoc]
  have HT := Lib.hid e0
  clear ht e0
  generalize decide (f1 = f2 ∧ h1 = h2 ∧ l1 = l2) = s at *
  cases s
  all_goals
    go_enter Tryz.func119, Tryz.ntmps119
    go_wp2_with fail
    refine (V.out _).mono ?_
    rintro e w1 ⟨rfl, hb1⟩
    have a3 : w1.cell? ⟨w.heap.size, 3, none⟩ = some (.int .i64 b1) := (blk_cell ((hb1.block _ (blk_lt H0.out.a)).trans H0.out.a) 3).trans rfl
    have b3 : w1.cell? ⟨w.heap.size + 1, 3, none⟩ = some (.int .i64 b2) := (blk_cell ((hb1.block _ (blk_lt H0.out.b)).trans H0.out.b) 3).trans rfl
    have B1 := Lib.hid (below_step H0.out.below hb1)
    clear hb1
    go_wp2_with fail
    try go_quiet (fail)
    go_wp2_with fail
    go_ret
    refine ⟨ret_bool ?_, by first | exact B1.out | exact below_drewN B1.out _⟩
    rw [← HT.out]
    first | rfl | simp
def sharesB (a b : List PfxI) : Bool := decide (∃ x, x ∈ a ∧ x ∈ b)
theorem Ps.el {w : World} {B : Option Addr} {b : Nat} {l : List PfxI} (h : Ps w B b l) (i : Nat) (hi : i < l.length) : ∃ bk off, B = some ⟨bk, off, none⟩ ∧ bk < w.heap.size ∧ w.cell? ⟨bk, off + i * 4, none⟩ = some (.int .i64 (l.getD i zP).1)
    ∧ w.cell? ⟨bk, off + i * 4 + 1, none⟩ = some (.int .u64 ((l.getD i zP).2.1 : Int)) ∧ w.cell? ⟨bk, off + i * 4 + 2, none⟩ = some (.int .u64 ((l.getD i zP).2.2.1 : Int)) ∧ w.cell? ⟨bk, off + i * 4 + 3, none⟩ = some (.int .i64 (l.getD i zP).2.2.2) := h.at_ i hi
theorem mem_getD {α : Type} {l : List α} {i : Nat} (z : α) (h : i < l.length) : l.getD i z ∈ l := by
  rw [List.getD_eq_getElem?_getD, List.getElem?_eq_getElem h]; exact List.getElem_mem h
theorem getD_mem {α : Type} {l : List α} {x : α} (z : α) (h : x ∈ l) : ∃ i, i < l.length ∧ l.getD i z = x := by
  obtain ⟨i, hi, rfl⟩ := List.mem_iff_getElem.1 h
  exact ⟨i, hi, by rw [List.getD_eq_getElem?_getD, List.getElem?_eq_getElem hi]; rfl⟩
set_option maxRecDepth 100000 in
set_option maxHeartbeats 2000000 in
theorem shares_any (A B : Option Addr) (a b : Nat) (l m : List PfxI) (w : World) (hp : Ps w A a l) (hq : Ps w B b m) :
    Calls Tryz.prog 125 #[.slice A l.length a, .slice B m.length b] w (Pure w (.bool (sharesB l m))) := by
  have HP := Lib.hid hp
  have HQ := Lib.hid hq
  have h1 := hp.le
  have h2 := hp.max
  have h3 := hq.le
  have h4 := hq.max
  clear hp hq
  obtain ⟨t, ht⟩ : ∃ t, sharesB l m = t := ⟨_, rfl⟩
  rw [ht]
  have HT := Lib.hid ht
  clear ht
  generalize hn : l.length = n at *
  generalize hk : m.length = k at *
  have HN := Lib.hid hn
  have HK := Lib.hid hk
  clear hn hk
  go_enter Tryz.func125, Tryz.ntmps125
  go_wp2_with fail
  go_loopg [5] n (fun gk i wr => ∃ p : Nat, p ≤ n ∧ gk = n - p ∧ i = .int .i64 (p : Int) ∧ Hid (∀ i, i < p → l.getD i zP ∉ m) ∧ Below w.heap.size w wr)
  case atStart => exact ⟨0, by omega, rfl, rfl, fun i hi => by omega, Below.refl _ _⟩
  case round =>
    obtain ⟨p, hp, rfl, rfl, HI, hb⟩ := hrel
    have HW := Lib.hid hb
    clear hb
    by_cases hlt : p < n
    · have i1 : (p : Int) < (n : Int) := by omega
      have i0 : (0 : Int) ≤ (p : Int) := by omega
      obtain ⟨bk, off, rfl, hbk, c0, c1, c2, c3⟩ := Ps.el HP.out p (by rw [HN.out]; exact hlt)
      have y0 := Since.cell c0 hbk
      have y1 := Since.cell c1 hbk
      have y2 := Since.cell c2 hbk
      have y3 := Since.cell c3 hbk
      clear c0 c1 c2 c3
      go_wp2_with fail
      go_loopg [6] k (fun gk i wr => ∃ j : Nat, j ≤ k ∧ gk = k - j ∧ i = .int .i64 (j : Int) ∧ Hid (∀ j', j' < j → l.getD p zP ≠ m.getD j' zP) ∧ Below w.heap.size w wr)
      case atStart => exact ⟨0, by omega, rfl, rfl, fun i hi => by omega, HW.out⟩
      case round =>
        obtain ⟨j, hj, rfl, rfl, HJ, hb⟩ := hrel
        have HW2 := Lib.hid hb
        have HG0 := Lib.hid (Since.drew hb)
        clear hb
        by_cases hjl : j < k
        · have j1 : (j : Int) < (k : Int) := by omega
          have j0 : (0 : Int) ≤ (j : Int) := by omega
          obtain ⟨bk2, off2, rfl, hbk2, d0, d1, d2, d3⟩ := Ps.el HQ.out j (by rw [HK.out]; exact hjl)
          have z0 := Since.cell d0 hbk2
          have z1 := Since.cell d1 hbk2
          have z2 := Since.cell d2 hbk2
          have z3 := Since.cell d3 hbk2
          have V := Lib.hid (fun W => samePrefix_any (l.getD p zP) (m.getD j zP) W)
          have HX : Hid (decide (l.getD p zP = m.getD j zP) = true → t = true) := fun h => by
            rw [← HT.out]
            exact decide_eq_true ⟨_, mem_getD zP (by rw [HN.out]; exact hlt), by rw [of_decide_eq_true h]; exact mem_getD zP (by rw [HK.out]; exact hjl)⟩
          have HY : Hid (decide (l.getD p zP = m.getD j zP) = false → ∀ j', j' < j + 1 → l.getD p zP ≠ m.getD j' zP) := fun h j' hj' => by
            rcases Nat.lt_or_ge j' j with h2 | h2
            · exact HJ.out j' h2
            · have : j' = j := by omega
              subst this; exact of_decide_eq_false h
          clear d0 d1 d2 d3
          generalize decide (l.getD p zP = m.getD j zP) = s at *
          cases s
          · have HJ2 : Hid (∀ j', j' < j + 1 → l.getD p zP ≠ m.getD j' zP) := HY.out rfl
            clear HX HY
            generalize (l.getD p zP).1 = q0 at *
            generalize (l.getD p zP).2.1 = q1 at *
            generalize (l.getD p zP).2.2.1 = q2 at *
            generalize (l.getD p zP).2.2.2 = q3 at *
            generalize (m.getD j zP).1 = r0 at *
            generalize (m.getD j zP).2.1 = r1 at *
            generalize (m.getD j zP).2.2.1 = r2 at *
            generalize (m.getD j zP).2.2.2 = r3 at *
            go_wp2_with fail
            refine wp_region_quiet_cls (Since w) (by kernel_rfl) (by kernel_rfl) HG0.out ?_
            repeat (go_big_quiet_step ((go_at_call 119; exact calls_cls Since.step (V.out _))))
            refine wpQuiet_nil ?_
            intro _ hw'
            obtain ⟨nq, hw''⟩ := hw'
            subst hw''
            have Q := Lib.hid (show Below w.heap.size w nq.W from nq.ok)
            go_wp2_with fail
            go_roundg (k - (j + 1))
            case measure => omega
            case rel => exact ⟨j + 1, by omega, rfl, by go_num, HJ2, Q.out⟩
          · have HF := Lib.hid (HX.out rfl)
            clear HX HY
            generalize (l.getD p zP).1 = q0 at *
            generalize (l.getD p zP).2.1 = q1 at *
            generalize (l.getD p zP).2.2.1 = q2 at *
            generalize (l.getD p zP).2.2.2 = q3 at *
            generalize (m.getD j zP).1 = r0 at *
            generalize (m.getD j zP).2.1 = r1 at *
            generalize (m.getD j zP).2.2.1 = r2 at *
            generalize (m.getD j zP).2.2.2 = r3 at *
            go_wp2_with fail
            refine wp_region_quiet_cls (Since w) (by kernel_rfl) (by kernel_rfl) HG0.out ?_
            repeat (go_big_quiet_step ((go_at_call 119; exact calls_cls Since.step (V.out _))))
            refine wpQuiet_nil ?_
            intro _ hw'
            obtain ⟨nq, hw''⟩ := hw'
            subst hw''
            have Q := Lib.hid (show Below w.heap.size w nq.W from nq.ok)
            go_wp2_with fail
            go_ret
            exact ⟨ret_bool HF.out.symm, Q.out⟩
        · obtain rfl : j = k := by omega
          have j1 : ¬ (j : Int) < (j : Int) := by omega
          have HI2 : Hid (∀ i, i < p + 1 → l.getD i zP ∉ m) := fun i hi => by
            rcases Nat.lt_or_ge i p with h | h
            · exact HI.out i h
            · have : i = p := by omega
              subst this
              intro hm
              obtain ⟨j', hj', e⟩ := getD_mem zP hm
              exact HJ.out j' (by rw [← HK.out]; exact hj') e.symm
          go_wp2_with fail
          go_roundg (n - (p + 1))
          case measure => omega
          case rel => exact ⟨p + 1, by omega, rfl, by go_num, HI2, HW2.out⟩
    · obtain rfl : p = n := by omega
      have i1 : ¬ (p : Int) < (p : Int) := by omega
      have HF : Hid (t = false) := by
        rw [Hid, ← HT.out]
        refine decide_eq_false ?_
        rintro ⟨x, hx, hm⟩
        obtain ⟨i, hi, e⟩ := getD_mem zP hx
        exact HI.out i (by rw [← HN.out]; exact hi) (by rw [e]; exact hm)
      go_wp2_with fail
      go_ret
      exact ⟨ret_bool HF.out.symm, HW.out⟩
end Go.Proofs.YtafdhccdjbfepaaGreat.Lst
/- The walk of the document's whole. -/
namespace Go.Proofs.YtafdhccdjbfepaaGreat.Lst
open Go.RowKit Go.Proofs.YtafdhccdjbfepaaGreat.K Go.Proofs.YtafdhccdjbfepaaGreat.Help Go.Proofs.YtafdhccdjbfepaaGreat.Pfx Go.Proofs.YtafdhccdjbfepaaGreat.Peer
set_option linter.unusedVariables false

/-- peer i has a lane -/
def hasLane (ps : List PeerD) (ls : List LaneD) (i : Nat) : Prop := ∃ j, j < ls.length ∧ (ls.getD j zeroLane).key = (ps.getD i zeroPeer).key
/-- peers j and i may stand beside one another -/
def apart (ps : List PeerD) (j i : Nat) : Prop := (ps.getD j zeroPeer).key ≠ (ps.getD i zeroPeer).key ∧ sharesB (ps.getD j zeroPeer).ps (ps.getD i zeroPeer).ps = false
def wholeTo (ps : List PeerD) (ls : List LaneD) (n : Nat) : Prop := ∀ i, i < n → hasLane ps ls i ∧ ∀ j, j < i → apart ps j i
open Classical in
noncomputable def wholeB (ps : List PeerD) (ls : List LaneD) : Bool := decide (ps.length ≤ 16 ∧ ls.length ≤ 32 ∧ wholeTo ps ls ps.length)
theorem whole_no {ps : List PeerD} {ls : List LaneD} (h : ¬ (ps.length ≤ 16 ∧ ls.length ≤ 32 ∧ wholeTo ps ls ps.length)) : wholeB ps ls = false := by unfold wholeB; simpa using h
theorem whole_yes {ps : List PeerD} {ls : List LaneD} (h : ps.length ≤ 16 ∧ ls.length ≤ 32 ∧ wholeTo ps ls ps.length) : wholeB ps ls = true := by unfold wholeB; simpa using h
/-- has one of the first j lanes peer p's key? -/
def laneTo (ps : List PeerD) (ls : List LaneD) (p j : Nat) (b : Bool) : Prop := b = true ↔ ∃ j', j' < j ∧ (ls.getD j' zeroLane).key = (ps.getD p zeroPeer).key
set_option maxRecDepth 100000 in
set_option maxHeartbeats 4000000 in
theorem whole_any (A B : Option Addr) (a b : Nat) (ps : List PeerD) (ls : List LaneD) (w : World) (hp : Lst PeerE w (fun _ => False) A a ps) (hq : Lst LaneE w (fun _ => False) B b ls) :
    Calls Tryz.prog 98 #[.slice A ps.length a, .slice B ls.length b] w (Pure w (.bool (wholeB ps ls))) := by
  have HP := Lib.hid hp
  have HQ := Lib.hid hq
  have h1 := hp.le
  have h2 := hp.max
  have h3 := hq.le
  have h4 := hq.max
  clear hp hq
  obtain ⟨t, ht⟩ : ∃ t, wholeB ps ls = t := ⟨_, rfl⟩
  rw [ht]
  have HT := Lib.hid ht
  clear ht
  generalize hn : ps.length = n at *
  generalize hk : ls.length = k at *
  have HN := Lib.hid hn
  have HK := Lib.hid hk
  clear hn hk
  have hbig : 16 < n ∨ (n ≤ 16 ∧ 32 < k) ∨ (n ≤ 16 ∧ k ≤ 32) := by omega
  rcases hbig with hbig | ⟨hb1, hbig⟩ | ⟨hb1, hb2⟩
  · have HF : Hid (t = false) := by
      rw [Hid, ← HT.out]; exact whole_no (fun h => by have := h.1; rw [HN.out] at this; omega)
    have i1 : (16 : Int) < (n : Int) := by omega
    go_enter Tryz.func98, Tryz.ntmps98
    go_wp2_with fail
    go_ret
    exact ⟨ret_bool HF.out.symm, Below.refl _ _⟩
  · have HF : Hid (t = false) := by
      rw [Hid, ← HT.out]; exact whole_no (fun h => by have := h.2.1; rw [HK.out] at this; omega)
    have i1 : (n : Int) ≤ (16 : Int) := by omega
    have i2 : (32 : Int) < (k : Int) := by omega
    go_enter Tryz.func98, Tryz.ntmps98
    go_wp2_with fail
    go_ret
    exact ⟨ret_bool HF.out.symm, Below.refl _ _⟩
  have i1 : (n : Int) ≤ (16 : Int) := by omega
  have i2 : (k : Int) ≤ (32 : Int) := by omega
  have i1b : decide ((16 : Int) < (n : Int)) = false := by simp; omega
  have i2b : decide ((32 : Int) < (k : Int)) = false := by simp; omega
  go_enter Tryz.func98, Tryz.ntmps98
  go_wp2_with fail
  go_loopg [5] n (fun gk i wr => ∃ p : Nat, p ≤ n ∧ gk = n - p ∧ i = .int .i64 (p : Int) ∧ Hid (wholeTo ps ls p) ∧ Below w.heap.size w wr)
  case atStart => exact ⟨0, by omega, rfl, rfl, fun i hi => by omega, Below.refl _ _⟩
  case round =>
    obtain ⟨p, hp, rfl, rfl, HI, hb⟩ := hrel
    have HW := Lib.hid hb
    clear hb
    by_cases hlt : p < n
    · have p1 : (p : Int) < (n : Int) := by omega
      have p0 : (0 : Int) ≤ (p : Int) := by omega
      obtain ⟨bk, off, A1, a1, B1, b1, rfl, hbk, -, c1, c2, s1, s2⟩ := HP.out.peer p _ (getD_get zeroPeer (by rw [HN.out]; exact hlt))
      have y1 := Since.cell c1 hbk
      have y2 := Since.cell c2 hbk
      have S1 := Lib.hid s1.1
      have S2 := Lib.hid s2.1
      clear c1 c2 s1 s2
      go_wp2_with fail
      go_loopg [7, 6] k (fun gk i s6 wr => ∃ (j : Nat) (bb : Bool), j ≤ k ∧ gk = k - j ∧ i = .int .i64 (j : Int) ∧ s6 = .bool bb ∧ Hid (laneTo ps ls p j bb) ∧ Below w.heap.size w wr)
      case atStart => exact ⟨0, false, by omega, rfl, rfl, rfl, ⟨(fun h => by cases h), fun ⟨j', h, _⟩ => by omega⟩, HW.out⟩
      case round =>
        obtain ⟨j, bb, hj, rfl, rfl, rfl, HJ, hb⟩ := hrel
        have HW2 := Lib.hid hb
        have HG0 := Lib.hid (Since.drew hb)
        clear hb
        by_cases hjl : j < k
        · have j1 : (j : Int) < (k : Int) := by omega
          have j0 : (0 : Int) ≤ (j : Int) := by omega
          obtain ⟨bk2, off2, A2, a2, rfl, hbk2, d0, -, -, -, -, -, -, -, u1, -⟩ := HQ.out.lane j _ (getD_get zeroLane (by rw [HK.out]; exact hjl))
          have z0 := Since.cell d0 hbk2
          have V := Lib.hid (Since.bytes u1.1 S1.out)
          clear d0 u1
          cases bb
          · skip
            have HX2 : Hid (laneTo ps ls p (j + 1) (decide ((ls.getD j zeroLane).key = (ps.getD p zeroPeer).key))) := by
              constructor
              · intro h; exact ⟨j, by omega, of_decide_eq_true h⟩
              · rintro ⟨j', h1, h2⟩
                rcases Nat.lt_or_ge j' j with h3 | h3
                · exact absurd (HJ.out.2 ⟨j', h3, h2⟩) (by decide)
                · have : j' = j := by omega
                  subst this; exact decide_eq_true h2
            generalize decide ((ls.getD j zeroLane).key = (ps.getD p zeroPeer).key) = s at *
            generalize (ls.getD j zeroLane).key.length = q1 at *
            generalize (ps.getD p zeroPeer).key.length = q2 at *
            generalize (ps.getD p zeroPeer).ps.length = q3 at *
            go_wp2_with fail
            refine wp_region_quiet_cls (Since w) (by kernel_rfl) (by kernel_rfl) HG0.out ?_
            repeat (go_big_quiet_step ((go_at_call 34; exact calls_cls Since.step (V.out _))))
            refine wpQuiet_nil ?_
            intro _ hw'
            obtain ⟨nq, hw''⟩ := hw'
            subst hw''
            have Q := Lib.hid (show Below w.heap.size w nq.W from nq.ok)
            go_wp2_with fail
            go_roundg (k - (j + 1))
            case measure => omega
            case rel => exact ⟨j + 1, s, by omega, rfl, by go_num, rfl, HX2, Q.out⟩
          · have HX2 : Hid (laneTo ps ls p (j + 1) true) := ⟨(fun _ => by
              obtain ⟨j', h1, h2⟩ := HJ.out.1 rfl
              exact ⟨j', by omega, h2⟩), fun _ => rfl⟩
            generalize (ls.getD j zeroLane).key.length = q1 at *
            generalize (ps.getD p zeroPeer).key.length = q2 at *
            generalize (ps.getD p zeroPeer).ps.length = q3 at *
            go_wp2_with fail
            refine wp_region_quiet_cls (Since w) (by kernel_rfl) (by kernel_rfl) HG0.out ?_
            repeat (go_big_quiet_step ((go_at_call 34; exact calls_cls Since.step (V.out _))))
            refine wpQuiet_nil ?_
            intro _ hw'
            obtain ⟨nq, hw''⟩ := hw'
            subst hw''
            have Q := Lib.hid (show Below w.heap.size w nq.W from nq.ok)
            go_wp2_with fail
            go_roundg (k - (j + 1))
            case measure => omega
            case rel => exact ⟨j + 1, true, by omega, rfl, by go_num, rfl, HX2, Q.out⟩
        · obtain rfl : j = k := by omega
          have j1 : ¬ (j : Int) < (j : Int) := by omega
          cases bb
          · have HF : Hid (t = false) := by
              rw [Hid, ← HT.out]
              refine whole_no (fun h => ?_)
              obtain ⟨j', h1, h2⟩ := (h.2.2 p (by rw [HN.out]; exact hlt)).1
              exact absurd (HJ.out.2 ⟨j', by rw [← HK.out]; exact h1, h2⟩) (by decide)
            go_wp2_with fail
            go_ret
            exact ⟨ret_bool HF.out.symm, HW2.out⟩
          · have HL : Hid (hasLane ps ls p) := by
              obtain ⟨j', h1, h2⟩ := HJ.out.1 rfl
              exact ⟨j', by rw [HK.out]; exact h1, h2⟩
            go_wp2_with fail
            go_loopg [8] p (fun gk i wr => ∃ q : Nat, q ≤ p ∧ gk = p - q ∧ i = .int .i64 (q : Int) ∧ Hid (∀ j', j' < q → apart ps j' p) ∧ Below w.heap.size w wr)
            case atStart => exact ⟨0, by omega, rfl, rfl, fun i hi => by omega, HW2.out⟩
            case round =>
              obtain ⟨q, hq, rfl, rfl, HA, hb⟩ := hrel
              have HW3 := Lib.hid hb
              have HG0 := Lib.hid (Since.drew hb)
              clear hb
              by_cases hql : q < p
              · have q1 : (q : Int) < (p : Int) := by omega
                have q2 : (q : Int) < (n : Int) := by omega
                have q0 : (0 : Int) ≤ (q : Int) := by omega
                obtain ⟨bk3, off3, A3, a3, B3, b3, e, -, -, d1, d2, u1, u2⟩ := HP.out.peer q _ (getD_get zeroPeer (by rw [HN.out]; omega))
                obtain ⟨rfl, rfl⟩ : bk = bk3 ∧ off = off3 := by simpa using e
                have z1 := Since.cell d1 hbk
                have z2 := Since.cell d2 hbk
                have V := Lib.hid (Since.bytes u1.1 S1.out)
                have V2 : Hid (∀ P : Cls (Since w), Calls Tryz.prog 125 #[.slice B3 (ps.getD q zeroPeer).ps.length b3, .slice B1 (ps.getD p zeroPeer).ps.length b1] P.W (Pure P.W (.bool (sharesB (ps.getD q zeroPeer).ps (ps.getD p zeroPeer).ps)))) :=
                  fun P => shares_any B3 B1 b3 b1 _ _ P.W (u2.1.below P.ok) (S2.out.below P.ok)
                have HX1 : Hid (decide ((ps.getD q zeroPeer).key = (ps.getD p zeroPeer).key) = false → sharesB (ps.getD q zeroPeer).ps (ps.getD p zeroPeer).ps = false → ∀ j', j' < q + 1 → apart ps j' p) := fun h1 h2 j' hj' => by
                  rcases Nat.lt_or_ge j' q with h3 | h3
                  · exact HA.out j' h3
                  · have : j' = q := by omega
                    subst this
                    exact ⟨of_decide_eq_false h1, h2⟩
                have HX2 : Hid ((decide ((ps.getD q zeroPeer).key = (ps.getD p zeroPeer).key) = true ∨ sharesB (ps.getD q zeroPeer).ps (ps.getD p zeroPeer).ps = true) → t = false) := fun h => by
                  rw [← HT.out]
                  refine whole_no (fun hw => ?_)
                  have := (hw.2.2 p (by rw [HN.out]; exact hlt)).2 q hql
                  rcases h with h | h
                  · exact this.1 (of_decide_eq_true h)
                  · rw [this.2] at h; cases h
                clear d1 d2 u1 u2 e
                generalize decide ((ps.getD q zeroPeer).key = (ps.getD p zeroPeer).key) = s at *
                generalize sharesB (ps.getD q zeroPeer).ps (ps.getD p zeroPeer).ps = s2 at *
                generalize (ps.getD q zeroPeer).key.length = r1 at *
                generalize (ps.getD p zeroPeer).key.length = r2 at *
                generalize (ps.getD p zeroPeer).ps.length = r3 at *
                generalize (ps.getD q zeroPeer).ps.length = r4 at *
                cases s
                · cases s2
                  · have HA2 := Lib.hid (HX1.out rfl rfl)
                    go_wp2_with fail
                    refine wp_region_quiet_cls (Since w) (by kernel_rfl) (by kernel_rfl) HG0.out ?_
                    repeat (go_big_quiet_step (first | (go_at_call 34; exact calls_cls Since.step (V.out _)) | (go_at_call 125; exact calls_cls Since.step (V2.out _))))
                    refine wpQuiet_nil ?_
                    intro _ hw'
                    obtain ⟨nq, hw''⟩ := hw'
                    subst hw''
                    have Q := Lib.hid (show Below w.heap.size w nq.W from nq.ok)
                    go_wp2_with fail
                    go_roundg (p - (q + 1))
                    case measure => omega
                    case rel => exact ⟨q + 1, by omega, rfl, by go_num, HA2, Q.out⟩
                  · have HF := Lib.hid (HX2.out (.inr rfl))
                    go_wp2_with fail
                    refine wp_region_quiet_cls (Since w) (by kernel_rfl) (by kernel_rfl) HG0.out ?_
                    repeat (go_big_quiet_step (first | (go_at_call 34; exact calls_cls Since.step (V.out _)) | (go_at_call 125; exact calls_cls Since.step (V2.out _))))
                    refine wpQuiet_nil ?_
                    intro _ hw'
                    obtain ⟨nq, hw''⟩ := hw'
                    subst hw''
                    have Q := Lib.hid (show Below w.heap.size w nq.W from nq.ok)
                    go_wp2_with fail
                    go_ret
                    exact ⟨ret_bool HF.out.symm, Q.out⟩
                · have HF := Lib.hid (HX2.out (.inl rfl))
                  go_wp2_with fail
                  refine wp_region_quiet_cls (Since w) (by kernel_rfl) (by kernel_rfl) HG0.out ?_
                  repeat (go_big_quiet_step (first | (go_at_call 34; exact calls_cls Since.step (V.out _)) | (go_at_call 125; exact calls_cls Since.step (V2.out _))))
                  refine wpQuiet_nil ?_
                  intro _ hw'
                  obtain ⟨nq, hw''⟩ := hw'
                  subst hw''
                  have Q := Lib.hid (show Below w.heap.size w nq.W from nq.ok)
                  go_wp2_with fail
                  go_ret
                  exact ⟨ret_bool HF.out.symm, Q.out⟩
              · obtain rfl : q = p := by omega
                have q1 : ¬ (q : Int) < (q : Int) := by omega
                have HI2 : Hid (wholeTo ps ls (q + 1)) := fun i hi => by
                  rcases Nat.lt_or_ge i q with h | h
                  · exact HI.out i h
                  · have : i = q := by omega
                    subst this
                    exact ⟨HL.out, HA.out⟩
                go_wp2_with fail
                go_roundg (n - (q + 1))
                case measure => omega
                case rel => exact ⟨q + 1, by omega, rfl, by go_num, HI2, HW3.out⟩
    · obtain rfl : p = n := by omega
      have p1 : ¬ (p : Int) < (p : Int) := by omega
      have HF : Hid (t = true) := by
        rw [Hid, ← HT.out]
        exact whole_yes ⟨by rw [HN.out]; exact hb1, by rw [HK.out]; exact hb2, by rw [HN.out]; exact HI.out⟩
      go_wp2_with fail
      go_ret
      exact ⟨ret_bool HF.out.symm, HW.out⟩
end Go.Proofs.YtafdhccdjbfepaaGreat.Lst
/- The walks of SamePeers, SameLanes (the same data) and Rows. -/
namespace Go.Proofs.YtafdhccdjbfepaaGreat.Lst
open Go.RowKit Go.Proofs.YtafdhccdjbfepaaGreat.K Go.Proofs.YtafdhccdjbfepaaGreat.Help Go.Proofs.YtafdhccdjbfepaaGreat.Pfx Go.Proofs.YtafdhccdjbfepaaGreat.Peer
set_option linter.unusedVariables false

set_option maxRecDepth 100000 in
set_option maxHeartbeats 2000000 in
theorem samePeers_self (A B : Option Addr) (a b : Nat) (l : List PeerD) (w : World) (hp : Lst PeerE w (fun _ => False) A a l) (hq : Lst PeerE w (fun _ => False) B b l) :
    Calls Tryz.prog 56 #[.slice A l.length a, .slice B l.length b] w (Pure w (.bool true)) := by
  have HP := Lib.hid hp
  have HQ := Lib.hid hq
  have h1 := hp.le
  have h2 := hp.max
  clear hp hq
  generalize hn : l.length = n at *
  have HN := Lib.hid hn
  clear hn
  go_enter Tryz.func56, Tryz.ntmps56
  go_wp2_with fail
  go_loopg [5] n (fun gk i wr => ∃ p : Nat, p ≤ n ∧ gk = n - p ∧ i = .int .i64 (p : Int) ∧ Below w.heap.size w wr)
  case atStart => exact ⟨0, by omega, rfl, rfl, Below.refl _ _⟩
  case round =>
    obtain ⟨p, hp, rfl, rfl, hb⟩ := hrel
    have HW := Lib.hid hb
    have HG0 := Lib.hid (Since.drew hb)
    clear hb
    by_cases hlt : p < n
    · have i1 : (p : Int) < (n : Int) := by omega
      have i0 : (0 : Int) ≤ (p : Int) := by omega
      obtain ⟨bk, off, A1, a1, B1, b1, rfl, hbk, c0, c1, c2, s1, s2⟩ := HP.out.peer p _ (getD_get zeroPeer (by rw [HN.out]; exact hlt))
      obtain ⟨ck, cff, A2, a2, B2, b2, rfl, hck, d0, d1, d2, u1, u2⟩ := HQ.out.peer p _ (getD_get zeroPeer (by rw [HN.out]; exact hlt))
      have y0 := Since.cell c0 hbk
      have y1 := Since.cell c1 hbk
      have y2 := Since.cell c2 hbk
      have z0 := Since.cell d0 hck
      have z1 := Since.cell d1 hck
      have z2 := Since.cell d2 hck
      have V : Hid (∀ P : Cls (Since w), Calls Tryz.prog 53 #[peerV A1 a1 B1 b1 (l.getD p zeroPeer), peerV A2 a2 B2 b2 (l.getD p zeroPeer)] P.W (Pure P.W (.bool true))) :=
        fun P => samePeer_self A1 B1 A2 B2 a1 b1 a2 b2 _ P.W (s1.1.below P.ok) (u1.1.below P.ok) (s2.1.below P.ok) (u2.1.below P.ok)
      unfold peerV at V
      clear c0 c1 c2 d0 d1 d2 s1 s2 u1 u2
      generalize (l.getD p zeroPeer).link = q0 at *
      generalize (l.getD p zeroPeer).key.length = q1 at *
      generalize (l.getD p zeroPeer).ps.length = q2 at *
      go_wp2_with fail
      refine wp_region_quiet_cls (Since w) (by kernel_rfl) (by kernel_rfl) HG0.out ?_
      repeat (go_big_quiet_step ((go_at_call 53; exact calls_cls Since.step (V.out _))))
      refine wpQuiet_nil ?_
      intro _ hw'
      obtain ⟨nq, hw''⟩ := hw'
      subst hw''
      have Q := Lib.hid (show Below w.heap.size w nq.W from nq.ok)
      go_wp2_with fail
      go_roundg (n - (p + 1))
      case measure => omega
      case rel => exact ⟨p + 1, by omega, rfl, by go_num, Q.out⟩
    · obtain rfl : p = n := by omega
      have i1 : ¬ (p : Int) < (p : Int) := by omega
      go_wp2_with fail
      go_ret
      exact ⟨rfl, HW.out⟩
set_option maxRecDepth 100000 in
set_option maxHeartbeats 2000000 in
theorem sameLanes_self (A B : Option Addr) (a b : Nat) (l : List LaneD) (w : World) (hp : Lst LaneE w (fun _ => False) A a l) (hq : Lst LaneE w (fun _ => False) B b l) :
    Calls Tryz.prog 57 #[.slice A l.length a, .slice B l.length b] w (Pure w (.bool true)) := by
  have HP := Lib.hid hp
  have HQ := Lib.hid hq
  have h1 := hp.le
  have h2 := hp.max
  clear hp hq
  generalize hn : l.length = n at *
  have HN := Lib.hid hn
  clear hn
  go_enter Tryz.func57, Tryz.ntmps57
  go_wp2_with fail
  go_loopg [5] n (fun gk i wr => ∃ p : Nat, p ≤ n ∧ gk = n - p ∧ i = .int .i64 (p : Int) ∧ Below w.heap.size w wr)
  case atStart => exact ⟨0, by omega, rfl, rfl, Below.refl _ _⟩
  case round =>
    obtain ⟨p, hp, rfl, rfl, hb⟩ := hrel
    have HW := Lib.hid hb
    have HG0 := Lib.hid (Since.drew hb)
    clear hb
    by_cases hlt : p < n
    · have i1 : (p : Int) < (n : Int) := by omega
      have i0 : (0 : Int) ≤ (p : Int) := by omega
      obtain ⟨bk, off, A1, a1, rfl, hbk, c0, c1, c2, c3, c4, c5, c6, c7, s1, -⟩ := HP.out.lane p _ (getD_get zeroLane (by rw [HN.out]; exact hlt))
      obtain ⟨ck, cff, A2, a2, rfl, hck, d0, d1, d2, d3, d4, d5, d6, d7, u1, -⟩ := HQ.out.lane p _ (getD_get zeroLane (by rw [HN.out]; exact hlt))
      have y0 := Since.cell c0 hbk
      have y1 := Since.cell c1 hbk
      have y2 := Since.cell c2 hbk
      have y3 := Since.cell c3 hbk
      have y4 := Since.cell c4 hbk
      have y5 := Since.cell c5 hbk
      have y6 := Since.cell c6 hbk
      have y7 := Since.cell c7 hbk
      have z0 := Since.cell d0 hck
      have z1 := Since.cell d1 hck
      have z2 := Since.cell d2 hck
      have z3 := Since.cell d3 hck
      have z4 := Since.cell d4 hck
      have z5 := Since.cell d5 hck
      have z6 := Since.cell d6 hck
      have z7 := Since.cell d7 hck
      have V : Hid (∀ P : Cls (Since w), Calls Tryz.prog 20 #[laneV A1 a1 (l.getD p zeroLane), laneV A2 a2 (l.getD p zeroLane)] P.W (Pure P.W (.bool true))) :=
        fun P => sameLane_refl A1 A2 a1 a2 _ P.W (s1.1.below P.ok) (u1.1.below P.ok)
      unfold laneV at V
      clear c0 c1 c2 c3 c4 c5 c6 c7 d0 d1 d2 d3 d4 d5 d6 d7 s1 u1
      generalize l.getD p zeroLane = x at *
      obtain ⟨q0, q1, q2, q3, q4, q5, q6, q7⟩ := x
      dsimp only at *
      go_wp2_with fail
      refine wp_region_quiet_cls (Since w) (by kernel_rfl) (by kernel_rfl) HG0.out ?_
      repeat (go_big_quiet_step ((go_at_call 20; exact calls_cls Since.step (V.out _))))
      refine wpQuiet_nil ?_
      intro _ hw'
      obtain ⟨nq, hw''⟩ := hw'
      subst hw''
      have Q := Lib.hid (show Below w.heap.size w nq.W from nq.ok)
      go_wp2_with fail
      go_roundg (n - (p + 1))
      case measure => omega
      case rel => exact ⟨p + 1, by omega, rfl, by go_num, Q.out⟩
    · obtain rfl : p = n := by omega
      have i1 : ¬ (p : Int) < (p : Int) := by omega
      go_wp2_with fail
      go_ret
      exact ⟨rfl, HW.out⟩
/-- new bytes may be appended to whatever row stood before -/
theorem new_row {w W W2 : World} {v : Value} {A B : Option Addr} {a b : Nat} {x : RowD} {N : Nat → Prop} (h1 : Bs W2 A a x.1) (h2 : Bs W2 B b x.2) (n1 : Nw W A) (n2 : Nw W B) (hv : ∀ k, N k → k < W.heap.size) :
    RowE.R W2 N [.slice A x.1.length a, .slice B x.2.length b] x := ⟨A, a, B, b, rfl, Bs.fresh h1 n1 hv, Bs.fresh h2 n2 hv⟩
end Go.Proofs.YtafdhccdjbfepaaGreat.Lst
/- The walk of the document's State. -/
namespace Go.Proofs.YtafdhccdjbfepaaGreat.Lst
open Go.RowKit Go.Proofs.YtafdhccdjbfepaaGreat.K Go.Proofs.YtafdhccdjbfepaaGreat.Help Go.Proofs.YtafdhccdjbfepaaGreat.Pfx Go.Proofs.YtafdhccdjbfepaaGreat.Peer
set_option linter.unusedVariables false

/-- what GetBoots tells -/
def bootsGet (k v : List UInt8) : Int × Int := if (putBoots (Help.asInt (rdAt v 0 8))).2.2 = 0 ∧ (putBoots (Help.asInt (rdAt v 0 8))).1 = k ∧ (putBoots (Help.asInt (rdAt v 0 8))).2.1 = v then (Help.asInt (rdAt v 0 8), 0) else (0, 114)
theorem readAs_boots (k v : List UInt8) : readAs (putBoots (Help.asInt (rdAt v 0 8))) k v (.int .i64 (Help.asInt (rdAt v 0 8))) (.int .i64 0) = .tuple #[.int .i64 (bootsGet k v).1, .int .i64 (bootsGet k v).2] := by
  unfold readAs bootsGet
  split <;> rfl
abbrev StD := List PeerD × List LaneD × Int × Bool
noncomputable def stepS (s : StD) (r : RowD) : StD :=
  if (peerGet r.1 r.2).2 = 0 then (layG ltP s.1 (peerGet r.1 r.2).1, s.2.1, s.2.2.1, s.2.2.2)
  else if (laneGet r.1 r.2).2 = 0 then (s.1, layG ltL s.2.1 (laneGet r.1 r.2).1, s.2.2.1, s.2.2.2)
  else if (bootsGet r.1 r.2).2 = 0 then (s.1, s.2.1, (bootsGet r.1 r.2).1, s.2.2.2)
  else (s.1, s.2.1, s.2.2.1, false)
noncomputable def foldS (l : List RowD) : StD := l.foldl stepS ([], [], 0, !twiceB l)
abbrev AnsD := List PeerD × List LaneD × Int × Int
/-- what the document's State answers -/
noncomputable def refState (l : List RowD) : AnsD := if ((foldS l).2.2.2 && wholeB (foldS l).1 (foldS l).2.1) = true then ((foldS l).1, (foldS l).2.1, (foldS l).2.2.1, 0) else ([], [], 0, 114)
def RetS (w : World) (r : AnsD) (e : Ending) (w' : World) : Prop :=
  ∃ A a B b, e = .returned (.tuple #[.slice A r.1.length a, .slice B r.2.1.length b, .int .i64 r.2.2.1, .int .i64 r.2.2.2]) ∧ Lst PeerE w' (fun _ => False) A a r.1 ∧ Lst LaneE w' (fun _ => False) B b r.2.1 ∧ Below w.heap.size w w'
theorem layG_len {α : Type} (lt : α → α → Bool) (l : List α) (p : α) : (layG lt l p).length = l.length + 1 := by
  have h := layF_len lt p l ([], false)
  have h2 : (l.foldl (layF lt p) ([], false)).2 = true → (l.foldl (layF lt p) ([], false)).1.length = l.length + 1 := by
    have key : ∀ (l : List α) (s : List α × Bool), s.2 = false → ((l.foldl (layF lt p) s).2 = true → (l.foldl (layF lt p) s).1.length = s.1.length + l.length + 1) ∧ ((l.foldl (layF lt p) s).2 = false → (l.foldl (layF lt p) s).1.length = s.1.length + l.length) := by
      intro l
      induction l with
      | nil => intro s hs; exact ⟨(fun h => by rw [List.foldl_nil, hs] at h; cases h), fun _ => by simp⟩
      | cons x r ih =>
        intro s hs
        rw [List.foldl_cons]
        by_cases hc : lt p x = true
        · have e : layF lt p s x = (s.1 ++ [p, x], true) := by simp [layF, hs, hc]
          rw [e]
          have hl := (layF_len lt p r (s.1 ++ [p, x], true)).2 rfl
          have ht : ∀ (r : List α) (s : List α × Bool), s.2 = true → (r.foldl (layF lt p) s).2 = true := by
            intro r
            induction r with
            | nil => intro s h; exact h
            | cons y r ih2 => intro s h; rw [List.foldl_cons]; exact ih2 _ (by simp [layF, h])
          exact ⟨(fun _ => by rw [hl]; simp; omega), fun h => by rw [ht r _ rfl] at h; cases h⟩
        · have e : layF lt p s x = (s.1 ++ [x], s.2) := by simp [layF, hc]
          rw [e]
          obtain ⟨h1, h2⟩ := ih (s.1 ++ [x], s.2) hs
          exact ⟨(fun h => by rw [h1 h]; simp; omega), fun h => by rw [h2 h]; simp; omega⟩
    intro h
    have := (key l ([], false) rfl).1 h
    simpa using this
  have h3 : (l.foldl (layF lt p) ([], false)).2 = false → (l.foldl (layF lt p) ([], false)).1.length = l.length := by
    have key : ∀ (l : List α) (s : List α × Bool), (l.foldl (layF lt p) s).2 = false → (l.foldl (layF lt p) s).1.length = s.1.length + l.length := by
      intro l
      induction l with
      | nil => intro s _; simp
      | cons x r ih =>
        intro s hf
        rw [List.foldl_cons] at hf ⊢
        have ht : ∀ (r : List α) (s : List α × Bool), s.2 = true → (r.foldl (layF lt p) s).2 = true := by
          intro r
          induction r with
          | nil => intro s h; exact h
          | cons y r ih2 => intro s h; rw [List.foldl_cons]; exact ih2 _ (by simp [layF, h])
        have hx : (layF lt p s x).1 = s.1 ++ [x] := by
          unfold layF
          split
          · rename_i hc
            have : (layF lt p s x).2 = true := by unfold layF; rw [if_pos hc]
            rw [ht r _ this] at hf; cases hf
          · rfl
        rw [ih _ hf, hx]; simp; omega
    intro h
    have := key l ([], false) h
    simpa using this
  unfold layG
  by_cases hb : (l.foldl (layF lt p) ([], false)).2 = true
  · rw [if_pos hb, h2 hb]
  · rw [if_neg hb]
    have := h3 (by simpa using hb)
    simp [this]
theorem foldS_step (l : List RowD) (s : StD) (k : Nat) (hk : k < l.length) : (l.take (k + 1)).foldl stepS s = stepS ((l.take k).foldl stepS s) (l.getD k zR) := by
  rw [List.take_succ_eq_append_getElem hk, List.foldl_append]
  simp [hk]
theorem peer_rr {w : World} {A B : Option Addr} {a b : Nat} {x : PeerD} (h1 : Bs w A a x.key) (h2 : Ps w B b x.ps) : PeerE.R w (fun _ => False) [Value.int .i64 x.link, .slice A x.key.length a, .slice B x.ps.length b] x := ⟨A, a, B, b, rfl, Bs.bsn h1, Ps.psn h2⟩
theorem lane_rr {w : World} {A : Option Addr} {a : Nat} {x : LaneD} (h1 : Bs w A a x.key) (h2 : LaneB x) : LaneE.R w (fun _ => False) [Value.slice A x.key.length a, .int .i64 x.side, .int .i64 x.cur, .int .i64 x.next, .int .u64 (x.sc : Int), .int .u64 (x.ceil : Int), .int .i64 x.sec, .int .i64 x.nano] x := ⟨A, a, rfl, Bs.bsn h1, h2⟩
theorem laneGet_b (k v : List UInt8) : LaneB (laneGet k v).1 := by
  unfold laneGet
  split
  · exact laneRd_b k v
  · exact ⟨by simp [zeroLane], by simp [zeroLane], by simp [zeroLane]⟩
set_option maxRecDepth 100000 in
set_option maxHeartbeats 4000000 in
theorem refState_any (A : Option Addr) (c : Nat) (l : List RowD) (w : World) (hl : Lst RowE w (fun _ => False) A c l) (hn : l.length ≤ 900) :
    Calls Tryz.prog 55 #[.slice A l.length c] w (RetS w (refState l)) := by
  have HL := Lib.hid hl
  have h1 := hl.le
  have h2 := hl.max
  have T := Lib.hid (twice_any A c l w hl)
  clear hl
  generalize hr : refState l = res
  have HR := Lib.hid hr
  clear hr
  unfold refState foldS at HR
  generalize twiceB l = tw at *
  generalize hm : l.length = n at *
  have HN := Lib.hid hm
  clear hm
  go_enter Tryz.func55, Tryz.ntmps55
  go_wp2_with fail
  refine T.out.mono ?_
  rintro e w0 ⟨q0, rfl, rfl⟩
  have HW0 : Hid (Below w.heap.size w (w.drewN q0)) := Lib.hid (below_drewN (Below.refl _ _) q0)
  generalize w.drewN q0 = w0 at *
  go_wp2_with fail
  go_loopg [10, 6, 7, 8, 9] n (fun gk i s6 s7 s8 s9 wr => ∃ (k : Nat) (ps : List PeerD) (ls : List LaneD) (bo : Int) (gd : Bool) (A1 : Option Addr) (a1 : Nat) (B1 : Option Addr) (b1 : Nat), k ≤ n ∧ gk = n - k ∧ i = .int .i64 (k : Int)
    ∧ s6 = .slice A1 ps.length a1 ∧ s7 = .slice B1 ls.length b1 ∧ s8 = .int .i64 bo ∧ s9 = .bool gd ∧ Hid ((l.take k).foldl stepS ([], [], 0, !tw) = (ps, ls, bo, gd)) ∧ Hid (ps.length ≤ k ∧ ls.length ≤ k)
    ∧ Lst PeerE wr (fun _ => False) A1 a1 ps ∧ Lst LaneE wr (fun _ => False) B1 b1 ls ∧ Below w.heap.size w wr)
  case atStart => exact ⟨0, [], [], 0, !tw, none, 0, none, 0, by omega, rfl, rfl, rfl, rfl, rfl, rfl, rfl, ⟨by simp, by simp⟩, Lst.nil _ _, Lst.nil _ _, HW0.out⟩
  case round =>
    obtain ⟨k, ps, ls, bo, gd, A1, a1, B1, b1, hk, rfl, rfl, rfl, rfl, rfl, rfl, HF, HLn, hp, hq, hb⟩ := hrel
    have HP := Lib.hid hp
    have HQ := Lib.hid hq
    have HW := Lib.hid hb
    clear hp hq hb
    by_cases hlt : k < n
    · have i1 : (k : Int) < (n : Int) := by omega
      have i0 : (0 : Int) ≤ (k : Int) := by omega
      have HST := Lib.hid (foldS_step l ([], [], 0, !tw) k (by rw [HN.out]; exact hlt))
      rw [HF.out] at HST
      obtain ⟨bk, off, A2, a2, B2, b2, rfl, hbk, c0, c1, s1, s2⟩ := HL.out.row k _ (getD_get zR (by rw [HN.out]; exact hlt))
      obtain ⟨⟨xk, xv⟩, hx⟩ : ∃ y, l.getD k zR = y := ⟨_, rfl⟩
      rw [hx] at c0 c1 s1 s2 HST
      dsimp only at c0 c1 s1 s2
      have S1 := Lib.hid s1.1
      have S2 := Lib.hid s2.1
      have C0 := Lib.hid c0
      have C1 := Lib.hid c1
      have HBK := Lib.hid hbk
      have GP := Lib.hid (fun W h h' => refGetPeer_any A2 B2 a2 b2 xk xv W h h')
      have GL := Lib.hid (fun W h h' => refGetLane_any A2 B2 a2 b2 xk xv W h h')
      have GB := Lib.hid (fun W h h' => refGetBoots_any A2 B2 a2 b2 xk xv W h h')
      rw [readAs_boots] at GB
      have LB := Lib.hid (laneGet_b xk xv)
      unfold stepS at HST
      dsimp only at HST
      generalize peerGet xk xv = pg at *
      obtain ⟨pd, pc⟩ := pg
      generalize laneGet xk xv = lg at *
      obtain ⟨ld, lc⟩ := lg
      generalize bootsGet xk xv = bg at *
      obtain ⟨bn, bc⟩ := bg
      dsimp only at HST LB
      have y0 : wr.cell? ⟨bk, off + k * 2, none⟩ = some (.slice A2 xk.length a2) := (HW.out.cell (p := ⟨bk, _, none⟩) hbk).trans c0
      have y1 : wr.cell? ⟨bk, off + k * 2 + 1, none⟩ = some (.slice B2 xv.length b2) := (HW.out.cell (p := ⟨bk, _, none⟩) hbk).trans c1
      clear c0 c1 s1 s2 hx hbk
      go_wp2_with fail
      refine (GP.out _ (S1.out.below HW.out) (S2.out.below HW.out)).mono ?_
      rintro e w1 ⟨A3, a3, B3, b3, rfl, s3, p3, hb1, -⟩
      unfold peerV
      dsimp only at s3 p3 ⊢
      have hq := below_alloc hb1 (.cells (peC pd.link A3 pd.key.length a3 (.slice B3 pd.ps.length b3)) 36)
      have W1 := Lib.hid (below_step HW.out hq)
      have X1 : Hid (PBox (w1.alloc (.cells (peC pd.link A3 pd.key.length a3 (.slice B3 pd.ps.length b3)) 36)) w1.heap.size pd.link A3 pd.key.length a3 B3 pd.ps.length b3) := ⟨blk_new w1 _⟩
      have S3 := Lib.hid (s3.below (below_alloc (Below.refl _ _) (.cells (peC pd.link A3 pd.key.length a3 (.slice B3 pd.ps.length b3)) 36)))
      have P3 := Lib.hid (p3.below (below_alloc (Below.refl _ _) (.cells (peC pd.link A3 pd.key.length a3 (.slice B3 pd.ps.length b3)) 36)))
      have HP1 := Lib.hid (HP.out.below hq)
      have HQ1 := Lib.hid (HQ.out.below hq)
      have y0 := (W1.out.cell (p := ⟨bk, off + k * 2, none⟩) HBK.out).trans C0.out
      have y1 := (W1.out.cell (p := ⟨bk, off + k * 2 + 1, none⟩) HBK.out).trans C1.out
      unfold peC at y0 y1
      clear s3 p3 hb1 hq
      go_wp2_with fail
      refine (GL.out _ (S1.out.below W1.out) (S2.out.below W1.out)).mono ?_
      rintro e w2 ⟨A4, a4, rfl, s4, hb2, -⟩
      unfold laneV
      dsimp only at s4 ⊢
      have hq := below_alloc hb2 (.cells (lnC A4 ld.key.length a4 ld.side ld.cur ld.next ld.sc ld.ceil ld.sec ld.nano) 43)
      have W2 := Lib.hid (below_step W1.out hq)
      have X2 := Lib.hid (X1.out.below hq)
      have S32 := Lib.hid (S3.out.below hq)
      have P32 := Lib.hid (P3.out.below hq)
      have X4 := Lib.hid (blk_new w2 (.cells (lnC A4 ld.key.length a4 ld.side ld.cur ld.next ld.sc ld.ceil ld.sec ld.nano) 43))
      have S4 := Lib.hid (s4.below (below_alloc (Below.refl _ _) (.cells (lnC A4 ld.key.length a4 ld.side ld.cur ld.next ld.sc ld.ceil ld.sec ld.nano) 43)))
      have HP2 := Lib.hid (HP1.out.below hq)
      have HQ2 := Lib.hid (HQ1.out.below hq)
      have y0 := (W2.out.cell (p := ⟨bk, off + k * 2, none⟩) HBK.out).trans C0.out
      have y1 := (W2.out.cell (p := ⟨bk, off + k * 2 + 1, none⟩) HBK.out).trans C1.out
      unfold lnC at y0 y1
      clear s4 hb2 hq
      go_wp2_with fail
      refine (GB.out _ (S1.out.below W2.out) (S2.out.below W2.out)).mono ?_
      rintro e w3 ⟨rfl, hb3⟩
      have W3 := Lib.hid (below_step W2.out hb3)
      have X3 := Lib.hid (X2.out.below hb3)
      have S33 := Lib.hid (S32.out.below hb3)
      have P33 := Lib.hid (P32.out.below hb3)
      have X43 := Lib.hid ((hb3.block _ (blk_lt X4.out)).trans X4.out)
      have S43 := Lib.hid (S4.out.below hb3)
      have HP3 := Lib.hid (HP2.out.below hb3)
      have HQ3 := Lib.hid (HQ2.out.below hb3)
      clear hb3 y0 y1
      by_cases hc1 : pc = 0
      · subst hc1
        rw [if_pos rfl] at HST
        obtain ⟨p0, p1, p2, -, -, -⟩ := X3.out.cells
        have V := Lib.hid (layPeer_any A1 a1 ps A3 a3 B3 b3 pd w3 HP3.out (peer_rr S33.out P33.out) (by have := HLn.out.1; omega))
        have HLP := Lib.hid (layG_len ltP ps pd)
        generalize layG ltP ps pd = ps2 at *
        go_wp2_with fail
        refine V.out.mono ?_
        rintro e w4 ⟨A5, a5, rfl, h5, hb4⟩
        have H5 := Lib.hid h5
        have W4 := Lib.hid (below_step W3.out hb4)
        have HQ4 := Lib.hid (HQ3.out.below hb4)
        clear h5 hb4
        go_wp2_with fail
        go_roundg (n - (k + 1))
        case measure => omega
        case rel => exact ⟨k + 1, ps2, ls, bo, gd, A5, a5, B1, b1, by omega, rfl, by go_num, rfl, rfl, rfl, rfl, HST, ⟨by have := HLP.out; have := HLn.out.1; omega, by have := HLn.out.2; omega⟩, H5.out, HQ4.out, W4.out⟩
      · have hn1 : (pc == 0) = false := by simpa using hc1
        rw [if_neg hc1] at HST
        by_cases hc2 : lc = 0
        · subst hc2
          rw [if_pos rfl] at HST
          obtain ⟨p0, p1, p2, p3, p4, p5, p6, p7⟩ := lane_cells X43.out
          have V := Lib.hid (layLane_any B1 b1 ls A4 a4 ld w3 HQ3.out (lane_rr S43.out LB.out) (by have := HLn.out.2; omega))
          have HLP := Lib.hid (layG_len ltL ls ld)
          generalize layG ltL ls ld = ls2 at *
          go_wp2_with fail
          refine V.out.mono ?_
          rintro e w4 ⟨A5, a5, rfl, h5, hb4⟩
          have H5 := Lib.hid h5
          have W4 := Lib.hid (below_step W3.out hb4)
          have HP4 := Lib.hid (HP3.out.below hb4)
          clear h5 hb4
          go_wp2_with fail
          go_roundg (n - (k + 1))
          case measure => omega
          case rel => exact ⟨k + 1, ps, ls2, bo, gd, A1, a1, A5, a5, by omega, rfl, by go_num, rfl, rfl, rfl, rfl, HST, ⟨by have := HLn.out.1; omega, by have := HLP.out; have := HLn.out.2; omega⟩, HP4.out, H5.out, W4.out⟩
        · have hn2 : (lc == 0) = false := by simpa using hc2
          rw [if_neg hc2] at HST
          by_cases hc3 : bc = 0
          · subst hc3
            rw [if_pos rfl] at HST
            go_wp2_with fail
            go_roundg (n - (k + 1))
            case measure => omega
            case rel => exact ⟨k + 1, ps, ls, bn, gd, A1, a1, B1, b1, by omega, rfl, by go_num, rfl, rfl, rfl, rfl, HST, ⟨by have := HLn.out.1; omega, by have := HLn.out.2; omega⟩, HP3.out, HQ3.out, W3.out⟩
          · have hn3 : (bc == 0) = false := by simpa using hc3
            rw [if_neg hc3] at HST
            go_wp2_with fail
            go_roundg (n - (k + 1))
            case measure => omega
            case rel => exact ⟨k + 1, ps, ls, bo, false, A1, a1, B1, b1, by omega, rfl, by go_num, rfl, rfl, rfl, rfl, HST, ⟨by have := HLn.out.1; omega, by have := HLn.out.2; omega⟩, HP3.out, HQ3.out, W3.out⟩
    · obtain rfl : k = n := by omega
      have i1 : ¬ (k : Int) < (k : Int) := by omega
      have htk : l.take k = l := List.take_of_length_le (by rw [HN.out]; omega)
      have HR2 := HR.out
      have HF2 := HF.out
      rw [htk] at HF2
      rw [HF2] at HR2
      dsimp only at HR2
      have V := Lib.hid (whole_any A1 B1 a1 b1 ps ls wr HP.out HQ.out)
      generalize wholeB ps ls = wb at *
      have HRR := Lib.hid HR2
      clear htk HF2 HR2
      cases gd
      · have HE : Hid (res = ([], [], 0, 114)) := by rw [Hid, ← HRR.out]; rfl
        go_wp2_with fail
        exact bodyPost_ret (v := .tuple #[.slice none 0 0, .slice none 0 0, .int .i64 0, .int .i64 114]) (by simp [results, Tryz.results55, go_sem]) rfl ⟨none, 0, none, 0, by rw [HE.out]; rfl, by rw [HE.out]; exact Lst.nil _ _, by rw [HE.out]; exact Lst.nil _ _, HW.out⟩
      · cases wb
        · have HE : Hid (res = ([], [], 0, 114)) := by rw [Hid, ← HRR.out]; rfl
          go_wp2_with fail
          refine V.out.mono ?_
          rintro e w5 ⟨rfl, hb5⟩
          have W5 := Lib.hid (below_step HW.out hb5)
          clear hb5
          go_wp2_with fail
          exact bodyPost_ret (v := .tuple #[.slice none 0 0, .slice none 0 0, .int .i64 0, .int .i64 114]) (by simp [results, Tryz.results55, go_sem]) rfl ⟨none, 0, none, 0, by rw [HE.out]; rfl, by rw [HE.out]; exact Lst.nil _ _, by rw [HE.out]; exact Lst.nil _ _, W5.out⟩
        · have HE : Hid (res = (ps, ls, bo, 0)) := by rw [Hid, ← HRR.out]; rfl
          go_wp2_with fail
          refine V.out.mono ?_
          rintro e w5 ⟨rfl, hb5⟩
          have W5 := Lib.hid (below_step HW.out hb5)
          have P5 := Lib.hid (HP.out.below hb5)
          have Q5 := Lib.hid (HQ.out.below hb5)
          clear hb5
          go_wp2_with fail
          exact bodyPost_ret (v := .tuple #[.slice A1 ps.length a1, .slice B1 ls.length b1, .int .i64 bo, .int .i64 0]) (by simp [results, Tryz.results55, go_sem]) rfl ⟨A1, a1, B1, b1, by rw [HE.out], by rw [HE.out]; exact P5.out, by rw [HE.out]; exact Q5.out, W5.out⟩
end Go.Proofs.YtafdhccdjbfepaaGreat.Lst
/- The walks of the library's Contains and ContainsFunc, as sound asks them, and of sound's two closures. -/
namespace Go.Proofs.YtafdhccdjbfepaaGreat.Lst
open Go.RowKit Go.Proofs.YtafdhccdjbfepaaGreat.K Go.Proofs.YtafdhccdjbfepaaGreat.Help Go.Proofs.YtafdhccdjbfepaaGreat.Pfx Go.Proofs.YtafdhccdjbfepaaGreat.Peer
set_option linter.unusedVariables false

/-- an index is answered: at least 0 just where b -/
def IdxR (w : World) (b : Bool) (e : Ending) (w' : World) : Prop := ∃ r : Int, e = .returned (.int .i64 r) ∧ decide (0 ≤ r) = b ∧ Below w.heap.size w w'
def pagg (x : PfxI) : Value := .agg #[.int .i64 x.1, .int .u64 (x.2.1 : Int), .int .u64 (x.2.2.1 : Int), .int .i64 x.2.2.2]
set_option maxRecDepth 100000 in
set_option maxHeartbeats 2000000 in
theorem index_pfx (A : Option Addr) (a : Nat) (l : List PfxI) (x : PfxI) (w : World) (hp : Ps w A a l) :
    Calls Tryz.prog 147 #[.slice A l.length a, pagg x] w (IdxR w (decide (x ∈ l))) := by
  have HP := Lib.hid hp
  have h1 := hp.le
  have h2 := hp.max
  clear hp
  obtain ⟨t, ht⟩ : ∃ t, decide (x ∈ l) = t := ⟨_, rfl⟩
  rw [ht]
  have HT := Lib.hid ht
  clear ht
  obtain ⟨xf, xh, xl, xb⟩ := x
  unfold pagg
  dsimp only
  generalize hn : l.length = n at *
  have HN := Lib.hid hn
  clear hn
  have HB0 := Lib.hid (Box.start 110 w #[.int .i64 xf, .int .u64 (xh : Int), .int .u64 (xl : Int), .int .i64 xb])
  go_enter Tryz.func147, Tryz.ntmps147
  go_wp2_with fail
  go_loopg [8] n (fun gk i wr => ∃ p : Nat, p ≤ n ∧ gk = n - p ∧ i = .int .i64 (p : Int) ∧ Hid (∀ i, i < p → (xf, xh, xl, xb) ≠ l.getD i zP) ∧ Box 110 w wr #[.int .i64 xf, .int .u64 (xh : Int), .int .u64 (xl : Int), .int .i64 xb])
  case atStart => exact ⟨0, by omega, rfl, rfl, fun i hi => by omega, HB0.out⟩
  case round =>
    obtain ⟨p, hp, rfl, rfl, HI, hb⟩ := hrel
    have b0 : wr.cell? ⟨w.heap.size, 0, none⟩ = some (.int .i64 xf) := hb.cell 0
    have b1 : wr.cell? ⟨w.heap.size, 1, none⟩ = some (.int .u64 (xh : Int)) := hb.cell 1
    have b2 : wr.cell? ⟨w.heap.size, 2, none⟩ = some (.int .u64 (xl : Int)) := hb.cell 2
    have b3 : wr.cell? ⟨w.heap.size, 3, none⟩ = some (.int .i64 xb) := hb.cell 3
    have HB := Lib.hid hb
    clear hb
    by_cases hlt : p < n
    · have i1 : (p : Int) < (n : Int) := by omega
      have i0 : (0 : Int) ≤ (p : Int) := by omega
      obtain ⟨bk, off, rfl, hbk, c0, c1, c2, c3⟩ := Ps.el (HP.out.below HB.out.below) p (by rw [HN.out]; exact hlt)
      obtain ⟨⟨yf, yh, yl, yb⟩, hy⟩ : ∃ y, l.getD p zP = y := ⟨_, rfl⟩
      rw [hy] at c0 c1 c2 c3
      dsimp only at c0 c1 c2 c3
      by_cases hx : (xf, xh, xl, xb) = (yf, yh, yl, yb)
      · have HF : Hid (t = true) := by
          rw [Hid, ← HT.out]
          refine decide_eq_true ?_
          rw [hx, ← hy]
          exact mem_getD zP (by rw [HN.out]; exact hlt)
        simp only [Prod.mk.injEq] at hx
        obtain ⟨rfl, rfl, rfl, rfl⟩ := hx
        have i3 : decide ((0 : Int) ≤ (p : Int)) = true := by simp
        have HI3 := Lib.hid i3
        clear hy hbk i3
        go_wp2_with fail
        go_quiet (fail)
        go_wp2_with fail
        go_ret
        exact ⟨p, rfl, by rw [HI3.out, HF.out], below_drewN HB.out.below _⟩
      · have HI2 : Hid (∀ i, i < p + 1 → (xf, xh, xl, xb) ≠ l.getD i zP) := fun i hi => by
          rcases Nat.lt_or_ge i p with h | h
          · exact HI.out i h
          · have : i = p := by omega
            subst this; rw [hy]; exact hx
        have hne : (¬ xf = yf) ∨ (xf = yf ∧ ¬ (xh : Int) = yh) ∨ (xf = yf ∧ xh = yh ∧ ¬ (xl : Int) = yl) ∨ (xf = yf ∧ xh = yh ∧ xl = yl ∧ ¬ xb = yb) := by
          rcases Decidable.em (xf = yf) with h | h
          · rcases Decidable.em (xh = yh) with h2 | h2
            · rcases Decidable.em (xl = yl) with h3 | h3
              · rcases Decidable.em (xb = yb) with h4 | h4
                · exact absurd (by rw [h, h2, h3, h4]) hx
                · exact .inr (.inr (.inr ⟨h, h2, h3, h4⟩))
              · exact .inr (.inr (.inl ⟨h, h2, by omega⟩))
            · exact .inr (.inl ⟨h, by omega⟩)
          · exact .inl h
        clear hx hy hbk
        rcases hne with h | ⟨rfl, h⟩ | ⟨rfl, rfl, h⟩ | ⟨rfl, rfl, rfl, h⟩
        all_goals
          go_wp2_with fail
          go_quiet (fail)
          go_wp2_with fail
          go_roundg (n - (p + 1))
          case measure => omega
          case rel => exact ⟨p + 1, by omega, rfl, by go_num, HI2, HB.out.drewN _⟩
    · obtain rfl : p = n := by omega
      have i1 : ¬ (p : Int) < (p : Int) := by omega
      have HF : Hid (t = false) := by
        rw [Hid, ← HT.out]
        refine decide_eq_false (fun hm => ?_)
        obtain ⟨i, hi, e⟩ := getD_mem zP hm
        exact HI.out i (by rw [← HN.out]; exact hi) e.symm
      go_wp2_with fail
      go_ret
      exact ⟨-1, rfl, by rw [HF.out]; decide, HB.out.below⟩
end Go.Proofs.YtafdhccdjbfepaaGreat.Lst
/- The walks of Contains, of sound's closures, and of ContainsFunc with them. -/
namespace Go.Proofs.YtafdhccdjbfepaaGreat.Lst
open Go.RowKit Go.Proofs.YtafdhccdjbfepaaGreat.K Go.Proofs.YtafdhccdjbfepaaGreat.Help Go.Proofs.YtafdhccdjbfepaaGreat.Pfx Go.Proofs.YtafdhccdjbfepaaGreat.Peer
set_option linter.unusedVariables false

set_option maxRecDepth 100000 in
set_option maxHeartbeats 1000000 in
theorem contains_pfx (A : Option Addr) (a : Nat) (l : List PfxI) (x : PfxI) (w : World) (hp : Ps w A a l) :
    Calls Tryz.prog 124 #[.slice A l.length a, pagg x] w (Pure w (.bool (decide (x ∈ l)))) := by
  have V := Lib.hid (fun W h => index_pfx A a l x W h)
  generalize decide (x ∈ l) = t at *
  obtain ⟨xf, xh, xl, xb⟩ := x
  unfold pagg at V ⊢
  dsimp only at V ⊢
  have HB0 := Lib.hid (Box.start 110 w #[.int .i64 xf, .int .u64 (xh : Int), .int .u64 (xl : Int), .int .i64 xb])
  have HP := Lib.hid (hp.below HB0.out.below)
  clear hp
  generalize l.length = n at *
  go_enter Tryz.func124, Tryz.ntmps124
  go_wp2_with fail
  refine (V.out _ HP.out).mono ?_
  rintro e w1 ⟨r, rfl, hr, hb1⟩
  have W1 := Lib.hid (below_step HB0.out.below hb1)
  have HR := Lib.hid hr
  clear hr hb1
  go_wp2_with fail
  go_ret
  refine ⟨ret_bool ?_, W1.out⟩
  rw [← HR.out]
  try rfl
/-- the box of a peer that a closure has taken -/
def Taken (W : World) (g : Nat) (d : PeerD) : Prop := ∃ A a B b, PBox W g d.link A d.key.length a B d.ps.length b ∧ Bs W A a d.key ∧ Ps W B b d.ps
theorem Taken.below {W W2 : World} {g : Nat} {d : PeerD} (h : Taken W g d) (hb : Below W.heap.size W W2) : Taken W2 g d := by
  obtain ⟨A, a, B, b, h1, h2, h3⟩ := h
  exact ⟨A, a, B, b, h1.below hb, h2.below hb, h3.below hb⟩
set_option maxRecDepth 100000 in
set_option maxHeartbeats 1000000 in
theorem sound2 (g : Nat) (d : PeerD) (x : PfxI) (w : World) (h : Taken w g d) :
    Calls Tryz.prog 123 #[pagg x, .pointer (some ⟨g, 0, none⟩)] w (Pure w (.bool (decide (x ∈ d.ps)))) := by
  obtain ⟨A, a, B, b, h1, h2, h3⟩ := h
  have HB0 := Lib.hid (Box.start 110 w (match pagg x with | .agg cs => cs | _ => #[]))
  have V := Lib.hid (contains_pfx B b d.ps x _ (h3.below HB0.out.below))
  generalize decide (x ∈ d.ps) = t at *
  obtain ⟨xf, xh, xl, xb⟩ := x
  unfold pagg at V HB0 ⊢
  dsimp only at V HB0 ⊢
  have X := Lib.hid (h1.below HB0.out.below)
  obtain ⟨-, -, c2, -, -, -⟩ := X.out.cells
  have hlt := blk_lt h1.b
  have hne : ¬ g = w.heap.size := by omega
  have hne2 : ¬ w.heap.size = g := by omega
  clear h1 h2 h3 hlt
  generalize d.ps.length = n at *
  go_enter Tryz.func123, Tryz.ntmps123
  go_wp2_with fail
  refine V.out.mono ?_
  rintro e w1 ⟨rfl, hb1⟩
  have W1 := Lib.hid (below_step HB0.out.below hb1)
  clear hb1
  go_wp2_with fail
  go_ret
  exact ⟨rfl, W1.out⟩
set_option maxRecDepth 100000 in
set_option maxHeartbeats 1000000 in
theorem sound1 (g : Nat) (d : PeerD) (A1 : Option Addr) (a1 : Nat) (x : LaneD) (w : World) (hx : Bs w A1 a1 x.key) (h : Taken w g d) :
    Calls Tryz.prog 121 #[laneV A1 a1 x, .pointer (some ⟨g, 0, none⟩)] w (Pure w (.bool (decide (x.key = d.key)))) := by
  obtain ⟨A, a, B, b, h1, h2, h3⟩ := h
  have HB0 := Lib.hid (Box.start 43 w (lnC A1 x.key.length a1 x.side x.cur x.next x.sc x.ceil x.sec x.nano))
  have V := Lib.hid (bytesEqual A1 A a1 a x.key d.key _ (hx.below HB0.out.below) (h2.below HB0.out.below))
  generalize decide (x.key = d.key) = t at *
  obtain ⟨k, q1, q2, q3, q4, q5, q6, q7⟩ := x
  unfold laneV
  dsimp only at V HB0 ⊢
  have X := Lib.hid (h1.below HB0.out.below)
  obtain ⟨-, c1, -, -, -, -⟩ := X.out.cells
  have b0 := (HB0.out.cell 0).trans (b := some (Value.slice A1 k.length a1)) rfl
  have hlt := blk_lt h1.b
  have hne : ¬ g = w.heap.size := by omega
  have hne2 : ¬ w.heap.size = g := by omega
  clear h1 h2 h3 hlt hx
  unfold lnC at HB0 V c1 b0
  generalize d.key.length = n at *
  generalize k.length = m at *
  go_enter Tryz.func121, Tryz.ntmps121
  go_wp2_with fail
  refine V.out.mono ?_
  rintro e w1 ⟨m, rfl, rfl⟩
  go_wp2_with fail
  go_ret
  exact ⟨rfl, below_drewN HB0.out.below _⟩
set_option maxRecDepth 100000 in
set_option maxHeartbeats 2000000 in
theorem indexFunc_pfx (A : Option Addr) (a : Nat) (l : List PfxI) (g : Nat) (d : PeerD) (w : World) (hp : Ps w A a l) (ht : Taken w g d) :
    Calls Tryz.prog 146 #[.slice A l.length a, .func (.func 123) #[] #[.pointer (some ⟨g, 0, none⟩)]] w (IdxR w (decide (∃ x, x ∈ l ∧ x ∈ d.ps))) := by
  have HP := Lib.hid hp
  have HTK := Lib.hid ht
  have h1 := hp.le
  have h2 := hp.max
  clear hp ht
  obtain ⟨t, ht⟩ : ∃ t, decide (∃ x, x ∈ l ∧ x ∈ d.ps) = t := ⟨_, rfl⟩
  rw [ht]
  have HT := Lib.hid ht
  clear ht
  generalize hn : l.length = n at *
  have HN := Lib.hid hn
  clear hn
  go_enter Tryz.func146, Tryz.ntmps146
  go_wp2_with fail
  go_loopg [8] n (fun gk i wr => ∃ p : Nat, p ≤ n ∧ gk = n - p ∧ i = .int .i64 (p : Int) ∧ Hid (∀ i, i < p → ¬ (l.getD i zP ∈ d.ps)) ∧ Below w.heap.size w wr)
  case atStart => exact ⟨0, by omega, rfl, rfl, fun i hi => by omega, Below.refl _ _⟩
  case round =>
    obtain ⟨p, hp, rfl, rfl, HI, hb⟩ := hrel
    have HW := Lib.hid hb
    clear hb
    by_cases hlt : p < n
    · have i1 : (p : Int) < (n : Int) := by omega
      have i0 : (0 : Int) ≤ (p : Int) := by omega
      obtain ⟨bk, off, rfl, hbk, c0, c1, c2, c3⟩ := Ps.el (HP.out.below HW.out) p (by rw [HN.out]; exact hlt)
      have V := Lib.hid (sound2 g d (l.getD p zP) wr (HTK.out.below HW.out))
      unfold pagg at V
      have HX : Hid (decide (l.getD p zP ∈ d.ps) = true → t = true) := fun h => by
        rw [← HT.out]
        exact decide_eq_true ⟨_, mem_getD zP (by rw [HN.out]; exact hlt), of_decide_eq_true h⟩
      have HY : Hid (decide (l.getD p zP ∈ d.ps) = false → ∀ i, i < p + 1 → ¬ (l.getD i zP ∈ d.ps)) := fun h i hi => by
        rcases Nat.lt_or_ge i p with h2 | h2
        · exact HI.out i h2
        · have : i = p := by omega
          subst this; exact of_decide_eq_false h
      generalize decide (l.getD p zP ∈ d.ps) = s at *
      generalize (l.getD p zP).1 = q0 at *
      generalize (l.getD p zP).2.1 = q1 at *
      generalize (l.getD p zP).2.2.1 = q2 at *
      generalize (l.getD p zP).2.2.2 = q3 at *
      clear hbk
      go_wp2_with fail
      refine V.out.mono ?_
      rintro e w1 ⟨rfl, hb1⟩
      have W1 := Lib.hid (below_step HW.out hb1)
      clear hb1
      cases s
      · have HI2 := Lib.hid (HY.out rfl)
        go_wp2_with fail
        go_roundg (n - (p + 1))
        case measure => omega
        case rel => exact ⟨p + 1, by omega, rfl, by go_num, HI2, W1.out⟩
      · have HF := Lib.hid (HX.out rfl)
        have HI3 : Hid (decide ((0 : Int) ≤ (p : Int)) = true) := by simp [Hid]
        go_wp2_with fail
        go_ret
        exact ⟨p, rfl, by rw [HI3.out, HF.out], W1.out⟩
    · obtain rfl : p = n := by omega
      have i1 : ¬ (p : Int) < (p : Int) := by omega
      have HF : Hid (t = false) := by
        rw [Hid, ← HT.out]
        refine decide_eq_false (fun ⟨x, hx, hc⟩ => ?_)
        obtain ⟨i, hi, e⟩ := getD_mem zP hx
        exact HI.out i (by rw [← HN.out]; exact hi) (by rw [e]; exact hc)
      go_wp2_with fail
      go_ret
      exact ⟨-1, rfl, by rw [HF.out]; decide, HW.out⟩
set_option maxRecDepth 100000 in
set_option maxHeartbeats 1000000 in
theorem containsFunc_pfx (A : Option Addr) (a : Nat) (l : List PfxI) (g : Nat) (d : PeerD) (w : World) (hp : Ps w A a l) (ht : Taken w g d) :
    Calls Tryz.prog 122 #[.slice A l.length a, .func (.func 123) #[] #[.pointer (some ⟨g, 0, none⟩)]] w (Pure w (.bool (decide (∃ x, x ∈ l ∧ x ∈ d.ps)))) := by
  have V := Lib.hid (indexFunc_pfx A a l g d w hp ht)
  generalize decide (∃ x, x ∈ l ∧ x ∈ d.ps) = t at *
  clear hp ht
  generalize l.length = n at *
  go_enter Tryz.func122, Tryz.ntmps122
  go_wp2_with fail
  refine V.out.mono ?_
  rintro e w1 ⟨r, rfl, hr, hb1⟩
  have W1 := Lib.hid hb1
  have HR := Lib.hid hr
  clear hr hb1
  go_wp2_with fail
  go_ret
  refine ⟨ret_bool ?_, W1.out⟩
  rw [← HR.out]
  try rfl
set_option maxRecDepth 100000 in
set_option maxHeartbeats 2000000 in
theorem indexFunc_lane (A : Option Addr) (a : Nat) (l : List LaneD) (g : Nat) (d : PeerD) (w : World) (hp : Lst LaneE w (fun _ => False) A a l) (ht : Taken w g d) :
    Calls Tryz.prog 145 #[.slice A l.length a, .func (.func 121) #[] #[.pointer (some ⟨g, 0, none⟩)]] w (IdxR w (decide (∃ x, x ∈ l ∧ x.key = d.key))) := by
  have HP := Lib.hid hp
  have HTK := Lib.hid ht
  have h1 := hp.le
  have h2 := hp.max
  clear hp ht
  obtain ⟨t, ht⟩ : ∃ t, decide (∃ x, x ∈ l ∧ x.key = d.key) = t := ⟨_, rfl⟩
  rw [ht]
  have HT := Lib.hid ht
  clear ht
  generalize hn : l.length = n at *
  have HN := Lib.hid hn
  clear hn
  go_enter Tryz.func145, Tryz.ntmps145
  go_wp2_with fail
  go_loopg [8] n (fun gk i wr => ∃ p : Nat, p ≤ n ∧ gk = n - p ∧ i = .int .i64 (p : Int) ∧ Hid (∀ i, i < p → ¬ ((l.getD i zeroLane).key = d.key)) ∧ Below w.heap.size w wr)
  case atStart => exact ⟨0, by omega, rfl, rfl, fun i hi => by omega, Below.refl _ _⟩
  case round =>
    obtain ⟨p, hp, rfl, rfl, HI, hb⟩ := hrel
    have HW := Lib.hid hb
    clear hb
    by_cases hlt : p < n
    · have i1 : (p : Int) < (n : Int) := by omega
      have i0 : (0 : Int) ≤ (p : Int) := by omega
      obtain ⟨bk, off, A1, a1, rfl, hbk, c0, c1, c2, c3, c4, c5, c6, c7, s1, -⟩ := (HP.out.below HW.out).lane p _ (getD_get zeroLane (by rw [HN.out]; exact hlt))
      have V := Lib.hid (sound1 g d A1 a1 (l.getD p zeroLane) wr s1.1 (HTK.out.below HW.out))
      unfold laneV at V
      clear s1 hbk
      have HX : Hid (decide ((l.getD p zeroLane).key = d.key) = true → t = true) := fun h => by
        rw [← HT.out]
        exact decide_eq_true ⟨_, mem_getD zeroLane (by rw [HN.out]; exact hlt), of_decide_eq_true h⟩
      have HY : Hid (decide ((l.getD p zeroLane).key = d.key) = false → ∀ i, i < p + 1 → ¬ ((l.getD i zeroLane).key = d.key)) := fun h i hi => by
        rcases Nat.lt_or_ge i p with h2 | h2
        · exact HI.out i h2
        · have : i = p := by omega
          subst this; exact of_decide_eq_false h
      generalize decide ((l.getD p zeroLane).key = d.key) = s at *
      generalize (l.getD p zeroLane).key.length = q0 at *
      generalize (l.getD p zeroLane).side = q1 at *
      generalize (l.getD p zeroLane).cur = q2 at *
      generalize (l.getD p zeroLane).next = q3 at *
      generalize (l.getD p zeroLane).sc = q4 at *
      generalize (l.getD p zeroLane).ceil = q5 at *
      generalize (l.getD p zeroLane).sec = q6 at *
      generalize (l.getD p zeroLane).nano = q7 at *
      go_wp2_with fail
      refine V.out.mono ?_
      rintro e w1 ⟨rfl, hb1⟩
      have W1 := Lib.hid (below_step HW.out hb1)
      clear hb1
      cases s
      · have HI2 := Lib.hid (HY.out rfl)
        go_wp2_with fail
        go_roundg (n - (p + 1))
        case measure => omega
        case rel => exact ⟨p + 1, by omega, rfl, by go_num, HI2, W1.out⟩
      · have HF := Lib.hid (HX.out rfl)
        have HI3 : Hid (decide ((0 : Int) ≤ (p : Int)) = true) := by simp [Hid]
        go_wp2_with fail
        go_ret
        exact ⟨p, rfl, by rw [HI3.out, HF.out], W1.out⟩
    · obtain rfl : p = n := by omega
      have i1 : ¬ (p : Int) < (p : Int) := by omega
      have HF : Hid (t = false) := by
        rw [Hid, ← HT.out]
        refine decide_eq_false (fun ⟨x, hx, hc⟩ => ?_)
        obtain ⟨i, hi, e⟩ := getD_mem zeroLane hx
        exact HI.out i (by rw [← HN.out]; exact hi) (by rw [e]; exact hc)
      go_wp2_with fail
      go_ret
      exact ⟨-1, rfl, by rw [HF.out]; decide, HW.out⟩
set_option maxRecDepth 100000 in
set_option maxHeartbeats 1000000 in
theorem containsFunc_lane (A : Option Addr) (a : Nat) (l : List LaneD) (g : Nat) (d : PeerD) (w : World) (hp : Lst LaneE w (fun _ => False) A a l) (ht : Taken w g d) :
    Calls Tryz.prog 120 #[.slice A l.length a, .func (.func 121) #[] #[.pointer (some ⟨g, 0, none⟩)]] w (Pure w (.bool (decide (∃ x, x ∈ l ∧ x.key = d.key)))) := by
  have V := Lib.hid (indexFunc_lane A a l g d w hp ht)
  generalize decide (∃ x, x ∈ l ∧ x.key = d.key) = t at *
  clear hp ht
  generalize l.length = n at *
  go_enter Tryz.func120, Tryz.ntmps120
  go_wp2_with fail
  refine V.out.mono ?_
  rintro e w1 ⟨r, rfl, hr, hb1⟩
  have W1 := Lib.hid hb1
  have HR := Lib.hid hr
  clear hr hb1
  go_wp2_with fail
  go_ret
  refine ⟨ret_bool ?_, W1.out⟩
  rw [← HR.out]
  try rfl
end Go.Proofs.YtafdhccdjbfepaaGreat.Lst
/- The walk of sound. -/
namespace Go.Proofs.YtafdhccdjbfepaaGreat.Lst
open Go.RowKit Go.Proofs.YtafdhccdjbfepaaGreat.K Go.Proofs.YtafdhccdjbfepaaGreat.Help Go.Proofs.YtafdhccdjbfepaaGreat.Pfx Go.Proofs.YtafdhccdjbfepaaGreat.Peer
set_option linter.unusedVariables false

/-- where both are false -/
def ImpF (a b : Bool) (P : Prop) : Prop := a = false → b = false → P
def ImpT (a b : Bool) (P : Prop) : Prop := (a = true ∨ b = true) → P
theorem hasLane_iff {ps : List PeerD} {ls : List LaneD} {i : Nat} : hasLane ps ls i ↔ ∃ x, x ∈ ls ∧ x.key = (ps.getD i zeroPeer).key := by
  constructor
  · rintro ⟨j, hj, h⟩; exact ⟨_, mem_getD zeroLane hj, h⟩
  · rintro ⟨x, hx, h⟩
    obtain ⟨j, hj, e⟩ := getD_mem zeroLane hx
    exact ⟨j, hj, by rw [e]; exact h⟩
set_option maxRecDepth 100000 in
set_option maxHeartbeats 4000000 in
theorem sound_any (A B : Option Addr) (a b : Nat) (ps : List PeerD) (ls : List LaneD) (w : World) (hp : Lst PeerE w (fun _ => False) A a ps) (hq : Lst LaneE w (fun _ => False) B b ls) :
    Calls Tryz.prog 94 #[.slice A ps.length a, .slice B ls.length b] w (Pure w (.bool (wholeB ps ls))) := by
  have HP := Lib.hid hp
  have HQ := Lib.hid hq
  have h1 := hp.le
  have h2 := hp.max
  have h3 := hq.le
  have h4 := hq.max
  clear hp hq
  obtain ⟨t, ht⟩ : ∃ t, wholeB ps ls = t := ⟨_, rfl⟩
  rw [ht]
  have HT := Lib.hid ht
  clear ht
  generalize hn : ps.length = n at *
  generalize hk : ls.length = k at *
  have HN := Lib.hid hn
  have HK := Lib.hid hk
  clear hn hk
  have hbig : 16 < n ∨ (n ≤ 16 ∧ 32 < k) ∨ (n ≤ 16 ∧ k ≤ 32) := by omega
  rcases hbig with hbig | ⟨hb1, hbig⟩ | ⟨hb1, hb2⟩
  · have HF : Hid (t = false) := by
      rw [Hid, ← HT.out]; exact whole_no (fun h => by have := h.1; rw [HN.out] at this; omega)
    have i1 : (16 : Int) < (n : Int) := by omega
    go_enter Tryz.func94, Tryz.ntmps94
    go_wp2_with fail
    go_ret
    exact ⟨ret_bool HF.out.symm, Below.refl _ _⟩
  · have HF : Hid (t = false) := by
      rw [Hid, ← HT.out]; exact whole_no (fun h => by have := h.2.1; rw [HK.out] at this; omega)
    have i1 : (n : Int) ≤ (16 : Int) := by omega
    have i2 : (32 : Int) < (k : Int) := by omega
    go_enter Tryz.func94, Tryz.ntmps94
    go_wp2_with fail
    go_ret
    exact ⟨ret_bool HF.out.symm, Below.refl _ _⟩
  have i1 : (n : Int) ≤ (16 : Int) := by omega
  have i2 : (k : Int) ≤ (32 : Int) := by omega
  have i1b : decide ((16 : Int) < (n : Int)) = false := by simp; omega
  have i2b : decide ((32 : Int) < (k : Int)) = false := by simp; omega
  go_enter Tryz.func94, Tryz.ntmps94
  go_wp2_with fail
  go_loopg [19] n (fun gk i wr => ∃ p : Nat, p ≤ n ∧ gk = n - p ∧ i = .int .i64 (p : Int) ∧ Hid (wholeTo ps ls p) ∧ Below w.heap.size w wr)
  case atStart => exact ⟨0, by omega, rfl, rfl, fun i hi => by omega, Below.refl _ _⟩
  case round =>
    obtain ⟨p, hp, rfl, rfl, HI, hb⟩ := hrel
    have HW := Lib.hid hb
    clear hb
    by_cases hlt : p < n
    · have p1 : (p : Int) < (n : Int) := by omega
      have p0 : (0 : Int) ≤ (p : Int) := by omega
      have pa : (p : Int) ≤ (a : Int) := by omega
      obtain ⟨bk, off, A1, a1, B1, b1, rfl, hbk, c0, c1, c2, s1, s2⟩ := HP.out.peer p _ (getD_get zeroPeer (by rw [HN.out]; exact hlt))
      have y0 := (HW.out.cell (p := ⟨bk, off + p * 3, none⟩) hbk).trans c0
      have y1 := (HW.out.cell (p := ⟨bk, off + p * 3 + 1, none⟩) hbk).trans c1
      have y2 := (HW.out.cell (p := ⟨bk, off + p * 3 + 2, none⟩) hbk).trans c2
      have HBK := Lib.hid hbk
      have S1 := Lib.hid s1.1
      have S2 := Lib.hid s2.1
      clear c0 c1 c2 s1 s2 hbk
      have HLI := Lib.hid (hasLane_iff (ps := ps) (ls := ls) (i := p))
      obtain ⟨⟨dl, dk, dp⟩, hd⟩ : ∃ d, ps.getD p zeroPeer = d := ⟨_, rfl⟩
      have HD := Lib.hid hd
      rw [hd] at y0 y1 y2 S1 S2 HLI
      dsimp only at y0 y1 y2 S1 S2 HLI
      clear hd
      have hba := below_alloc (Below.refl wr.heap.size wr) (.cells #[.int .i64 dl, .slice A1 dk.length a1, .slice B1 dp.length b1] 36)
      have WA := Lib.hid (below_step HW.out hba)
      have TK : Hid (Taken (wr.alloc (.cells #[.int .i64 dl, .slice A1 dk.length a1, .slice B1 dp.length b1] 36)) wr.heap.size ⟨dl, dk, dp⟩) := ⟨A1, a1, B1, b1, ⟨blk_new _ _⟩, S1.out.below WA.out, S2.out.below WA.out⟩
      have V := Lib.hid (containsFunc_lane B b ls wr.heap.size ⟨dl, dk, dp⟩ _ (HQ.out.below WA.out) TK.out)
      dsimp only at V
      rw [HK.out] at V
      have HX : Hid (decide (∃ x, x ∈ ls ∧ x.key = dk) = true → hasLane ps ls p) := fun h => HLI.out.2 (of_decide_eq_true h)
      have HX2 : Hid (decide (∃ x, x ∈ ls ∧ x.key = dk) = false → t = false) := fun h => by
        rw [← HT.out]
        refine whole_no (fun hw => ?_)
        exact absurd (HLI.out.1 (hw.2.2 p (by rw [HN.out]; exact hlt)).1) (of_decide_eq_false h)
      generalize decide (∃ x, x ∈ ls ∧ x.key = dk) = hl at *
      have SZ : Hid (w.heap.size ≤ wr.heap.size) := Lib.hid HW.out.size
      clear hba HLI
      go_wp2_with fail
      refine V.out.mono ?_
      rintro e w1 ⟨rfl, hb1⟩
      have W1 := Lib.hid (below_step WA.out hb1)
      have T1 := Lib.hid (TK.out.below hb1)
      clear hb1
      cases hl
      · have HF := Lib.hid (HX2.out rfl)
        go_wp2_with fail
        go_ret
        exact ⟨ret_bool HF.out.symm, W1.out⟩
      have HL := Lib.hid (HX.out rfl)
      clear HX HX2
      go_wp2_with fail
      generalize wr.heap.size = g at *
      go_loopg [32] p (fun gk i wQ => ∃ q : Nat, q ≤ p ∧ gk = p - q ∧ i = .int .i64 (q : Int) ∧ Hid (∀ j', j' < q → apart ps j' p) ∧ Taken wQ g ⟨dl, dk, dp⟩ ∧ Below w.heap.size w wQ)
      case atStart => exact ⟨0, by omega, rfl, rfl, fun i hi => by omega, T1.out, W1.out⟩
      case round =>
        obtain ⟨q, hq, rfl, rfl, HA, htk, hb⟩ := hrel
        have HWX := Lib.hid hb
        have TKX := Lib.hid htk
        clear hb htk
        by_cases hql : q < p
        · have q1 : (q : Int) < (p : Int) := by omega
          have q2 : (q : Int) < (n : Int) := by omega
          have q0 : (0 : Int) ≤ (q : Int) := by omega
          obtain ⟨bk3, off3, A3, a3, B3, b3, e, -, d0, d1, d2, u1, u2⟩ := HP.out.peer q _ (getD_get zeroPeer (by rw [HN.out]; omega))
          obtain ⟨rfl, rfl⟩ : bk = bk3 ∧ off = off3 := by simpa using e
          have HU1 := Lib.hid u1.1
          have HU2 := Lib.hid u2.1
          have z0 := (HWX.out.cell (p := ⟨bk, off + q * 3, none⟩) HBK.out).trans d0
          have z1 := (HWX.out.cell (p := ⟨bk, off + q * 3 + 1, none⟩) HBK.out).trans d1
          have z2 := (HWX.out.cell (p := ⟨bk, off + q * 3 + 2, none⟩) HBK.out).trans d2
          obtain ⟨⟨ol, ok, op⟩, ho⟩ : ∃ d, ps.getD q zeroPeer = d := ⟨_, rfl⟩
          have HO := Lib.hid ho
          rw [ho] at z0 z1 z2 HU1 HU2
          dsimp only at z0 z1 z2 HU1 HU2
          clear d0 d1 d2 u1 u2 e ho
          have HX1 : Hid (ImpF (decide (ok = dk)) (sharesB op dp) (∀ j', j' < q + 1 → apart ps j' p)) := fun h1 h2 j' hj' => by
            rcases Nat.lt_or_ge j' q with h3 | h3
            · exact HA.out j' h3
            · have : j' = q := by omega
              subst this
              refine ⟨?_, ?_⟩
              · rw [HO.out, HD.out]; exact of_decide_eq_false h1
              · rw [HO.out, HD.out]; exact h2
          have HX2 : Hid (ImpT (decide (ok = dk)) (sharesB op dp) (t = false)) := fun h => by
            rw [← HT.out]
            refine whole_no (fun hw => ?_)
            have := (hw.2.2 p (by rw [HN.out]; exact hlt)).2 q hql
            unfold apart at this
            rw [HO.out, HD.out] at this
            rcases h with h | h
            · exact this.1 (of_decide_eq_true h)
            · rw [this.2] at h; cases h
          have hba := below_alloc (Below.refl wr.heap.size wr) (.cells #[.int .i64 ol, .slice A3 ok.length a3, .slice B3 op.length b3] 36)
          have WXA := Lib.hid (below_step HWX.out hba)
          have TKA := Lib.hid (TKX.out.below hba)
          have XA : Hid (PBox (wr.alloc (.cells #[.int .i64 ol, .slice A3 ok.length a3, .slice B3 op.length b3] 36)) wr.heap.size ol A3 ok.length a3 B3 op.length b3) := ⟨blk_new _ _⟩
          obtain ⟨A4, a4, B4, b4, X4, t4, p4⟩ := TKA.out
          dsimp only at X4 t4 p4
          obtain ⟨-, e1, -, -, -, -⟩ := X4.cells
          obtain ⟨-, f1, f2, -, -, -⟩ := XA.out.cells
          have VB := Lib.hid (bytesEqual A3 A4 a3 a4 ok dk _ (HU1.out.below WXA.out) t4)
          have VC := Lib.hid (fun m => containsFunc_pfx B3 b3 op g ⟨dl, dk, dp⟩ ((wr.alloc (.cells #[.int .i64 ol, .slice A3 ok.length a3, .slice B3 op.length b3] 36)).drewN m) ((HU2.out.below WXA.out).drewN m) (TKA.out.below (below_drewN (Below.refl _ _) m)))
          rw [show (decide (∃ x, x ∈ op ∧ x ∈ (⟨dl, dk, dp⟩ : PeerD).ps)) = sharesB op dp from rfl] at VC
          clear hba X4 t4 p4
          generalize decide (ok = dk) = s at *
          generalize sharesB op dp = s2 at *
          go_wp2_with fail
          refine VB.out.mono ?_
          rintro e w3 ⟨m, rfl, rfl⟩
          cases s
          · go_wp2_with fail
            refine (VC.out m).mono ?_
            rintro e w4 ⟨rfl, hb4⟩
            have W4 := Lib.hid (below_step (below_drewN WXA.out m) hb4)
            have T4 := Lib.hid ((TKA.out.below (below_drewN (Below.refl _ _) m)).below hb4)
            clear hb4
            cases s2
            · have HA2 := Lib.hid (HX1.out rfl rfl)
              go_wp2_with fail
              go_roundg (p - (q + 1))
              case measure => omega
              case rel => exact ⟨q + 1, by omega, rfl, by go_num, HA2, T4.out, W4.out⟩
            · have HF := Lib.hid (HX2.out (.inr rfl))
              go_wp2_with fail
              go_ret
              exact ⟨ret_bool HF.out.symm, W4.out⟩
          · have HF := Lib.hid (HX2.out (.inl rfl))
            go_wp2_with fail
            go_ret
            exact ⟨ret_bool HF.out.symm, below_drewN WXA.out m⟩
        · obtain rfl : q = p := by omega
          have q1 : ¬ (q : Int) < (q : Int) := by omega
          have HI2 : Hid (wholeTo ps ls (q + 1)) := fun i hi => by
            rcases Nat.lt_or_ge i q with h | h
            · exact HI.out i h
            · have : i = q := by omega
              subst this
              exact ⟨HL.out, HA.out⟩
          go_wp2_with fail
          go_roundg (n - (q + 1))
          case measure => omega
          case rel => exact ⟨q + 1, by omega, rfl, by go_num, HI2, HWX.out⟩
    · obtain rfl : p = n := by omega
      have p1 : ¬ (p : Int) < (p : Int) := by omega
      have HF : Hid (t = true) := by
        rw [Hid, ← HT.out]
        exact whole_yes ⟨by rw [HN.out]; exact hb1, by rw [HK.out]; exact hb2, by rw [HN.out]; exact HI.out⟩
      go_wp2_with fail
      go_ret
      exact ⟨ret_bool HF.out.symm, HW.out⟩
end Go.Proofs.YtafdhccdjbfepaaGreat.Lst
/- A map of rows, keyed by strings. -/
namespace Go.Proofs.YtafdhccdjbfepaaGreat.Lst
open Go.RowKit Go.Maps Go.Proofs.YtafdhccdjbfepaaGreat.K Go.Proofs.YtafdhccdjbfepaaGreat.Help Go.Proofs.YtafdhccdjbfepaaGreat.Pfx Go.Proofs.YtafdhccdjbfepaaGreat.Peer
set_option linter.unusedVariables false

/-- what is gathered: a key, and its value's slice -/
abbrev GRow := List UInt8 × Value
def RV (v : Value) : Option (DataW Value × List MemPlace) := some (.held v, [])
def putR (D : DataW Value) (r : GRow) : DataW Value := D.put (.string r.1) (.held r.2)
def mapD (rs : List GRow) : DataW Value := rs.foldl putR (.map [])
def hasG (rs : List GRow) (k : List UInt8) : Bool := rs.any (fun r => r.1 == k)
def lookG (rs : List GRow) (k : List UInt8) : Value := match rs.find? (fun r => r.1 == k) with | some r => r.2 | none => .slice none 0 0
theorem mapD_snoc (rs : List GRow) (r : GRow) : mapD (rs ++ [r]) = (mapD rs).put (.string r.1) (.held r.2) := by simp [mapD, putR, List.foldl_append]
theorem fold_is : ∀ (rs : List GRow) (D : DataW Value), IsMap D → IsMap (rs.foldl putR D)
  | [], _, h => h
  | r :: t, D, h => fold_is t (putR D r) (h.put _ _)
theorem mapD_is (rs : List GRow) : IsMap (mapD rs) := fold_is rs _ isMap_empty
theorem fold_has (k : List UInt8) : ∀ (rs : List GRow) (D : DataW Value), IsMap D → has (rs.foldl putR D) (.string k) = (has D (.string k) || hasG rs k)
  | [], D, _ => by simp [hasG]
  | r :: t, D, h => by
    have e0 : IsMap (putR D r) := h.put _ _
    rw [List.foldl_cons, fold_has k t _ e0]
    unfold hasG putR
    rw [List.any_cons]
    by_cases e : r.1 = k
    · subst e
      rw [has_put_same h (k := .string r.1) (by simp [WideAt.IsKeyLit])]
      simp
    · rw [has_put_other (by intro h; injection h with h; exact e h.symm)]
      have : (r.1 == k) = false := by simpa using e
      rw [this, Bool.false_or]
theorem mapD_has (rs : List GRow) (k : List UInt8) : has (mapD rs) (.string k) = hasG rs k := by
  unfold mapD
  rw [fold_has k rs _ isMap_empty]
  rfl
theorem hasG_false {rs : List GRow} {k : List UInt8} : hasG rs k = false ↔ k ∉ rs.map Prod.fst := by
  unfold hasG
  rw [List.any_eq_false]
  simp only [List.mem_map, not_exists, not_and, beq_iff_eq]
theorem hasG_true {rs : List GRow} {k : List UInt8} : hasG rs k = true ↔ k ∈ rs.map Prod.fst := by
  have := hasG_false (rs := rs) (k := k)
  cases h : hasG rs k
  · rw [h] at this; simp at this ⊢; intro x; exact this x
  · rw [h] at this; simp only [Bool.true_eq_false, false_iff, Classical.not_not] at this; simpa using this
theorem fold_at (k : List UInt8) (z : DataW Value) : ∀ (rs : List GRow) (D : DataW Value), IsMap D → (rs.map Prod.fst).Nodup →
    (rs.foldl putR D).atKey (.string k) z = match rs.find? (fun r => r.1 == k) with | some r => .held r.2 | none => D.atKey (.string k) z
  | [], D, _, _ => by simp
  | r :: t, D, h, hn => by
    rw [List.map_cons, List.nodup_cons] at hn
    have e0 : IsMap (putR D r) := h.put _ _
    rw [List.foldl_cons, fold_at k z t _ e0 hn.2, List.find?_cons]
    unfold putR
    by_cases e : r.1 = k
    · subst e
      have hf : t.find? (fun x => x.1 == r.1) = none := by
        rw [List.find?_eq_none]
        intro x hx hk
        exact hn.1 (List.mem_map.2 ⟨x, hx, by simpa using hk⟩)
      rw [hf]
      simp only [beq_self_eq_true]
      rw [atKey_put_same h (k := .string r.1) (by simp [WideAt.IsKeyLit])]
    · have hb : (r.1 == k) = false := by simpa using e
      rw [hb]
      rw [atKey_put_other (by intro h; injection h with h; exact e h.symm)]
theorem mapD_at (rs : List GRow) (k : List UInt8) (hn : (rs.map Prod.fst).Nodup) : (mapD rs).atKey (.string k) (.held (.slice none 0 0)) = .held (lookG rs k) := by
  unfold mapD lookG
  rw [fold_at k _ rs _ isMap_empty hn]
  cases rs.find? (fun r => r.1 == k) <;> rfl
def GMap (w : World) (b : Nat) (rs : List GRow) : Prop := w.ownsMap Tryz.prog 9 RV b rs.length (mapD rs) ∧ (rs.map Prod.fst).Nodup
theorem K_str : Keyed Tryz.prog 9 := string_keyed u_str
theorem u_map : Tryz.prog.underlying 116 = some (.map 9 33) := by kernel_rfl
theorem z_bytes (w : World) : (zeroValue 33).run Tryz.prog w = .ok (.slice none 0 0) w := by simp [Tryz.zeroValue33]
theorem GMap.lt {w : World} {b : Nat} {rs : List GRow} (h : GMap w b rs) : b < w.heap.size := h.1.lt
theorem GMap.keep {w w' : World} {b : Nat} {rs : List GRow} (h : GMap w b rs) (hb : Below w.heap.size w w') : GMap w' b rs := by
  obtain ⟨⟨es, clock, hh, r⟩, hn⟩ := h
  exact ⟨⟨es, clock, (hb.block _ (blk_lt hh)).trans hh, r⟩, hn⟩
theorem GMap.only {w w' : World} {b : Nat} {rs : List GRow} {T : Nat → Prop} (h : GMap w b rs) (k : Only w w' T) (hT : ¬ T b) : GMap w' b rs := by
  obtain ⟨⟨es, clock, hh, r⟩, hn⟩ := h
  exact ⟨⟨es, clock, k.blk hh hT, r⟩, hn⟩
theorem GMap.size_le {w : World} {b : Nat} {rs : List GRow} (h : GMap w b rs) : Maps.size (mapD rs) ≤ rs.length := by
  obtain ⟨⟨es, clock, hh, F, hs, hD⟩, _⟩ := h
  rw [hD]
  simpa [Maps.size, length_sorted] using hs
theorem GMap.keys {w : World} {b : Nat} {rs : List GRow} (h : GMap w b rs) : (rs.map Prod.fst).Perm (strKeys (mapD rs)) := by
  obtain ⟨es, hD, hpw, _⟩ := h.1.entries K_str
  obtain ⟨es', hD', hko⟩ := h.1.keysOf
  rw [hD]
  obtain rfl : es = es' := by rw [hD] at hD'; simpa using hD'
  refine perm_strKeys hpw (fun p hp => by obtain ⟨v, hv⟩ := hko p hp; obtain ⟨x, _, hx, _⟩ := Maps.keyOf_str u_str hv; exact ⟨x, hx⟩) h.2 (fun x => ?_)
  rw [← hD, mapD_has, hasG_true]
section
variable {ops : Array Oper} {rest : List Oper} {o : Oper} {a : Act} {Q : Exit → Act → World → Prop} {w : World} {b : Nat} {rs : List GRow}
theorem look_ok (hg : o.guard = none) (m x : Operand) (hop : o.op = Op.lookup 116 m x true) (hm : a.eval m = .map (some b)) (h : GMap w b rs) (k : List UInt8) (hx : a.eval x = .string ⟨k.toArray⟩) (hk : k.length ≤ maxLen)
    (hK : wpList Tryz.prog ops Q rest (a.put o.dst (.tuple #[lookG rs k, .bool (hasG rs k)])) w) : wpList Tryz.prog ops Q (o :: rest) a w := by
  refine wpList_lookup_own_ok w hg m x _ hop _ _ K_str u_map RV (z_bytes w) (.held (.slice none 0 0)) [] rfl b _ _ hm h.1 _ (.string k) hx (by simpa using WideMaps.keyOf_string_mk u_str (s := ⟨k.toArray⟩) (by simpa [ByteArray.size] using hk)) (fun v ps hv => ?_)
  rw [mapD_at rs k h.2] at hv
  unfold RV at hv
  injection hv with hv
  injection hv with hv
  injection hv with hv
  rw [hv, mapD_has]
  exact hK
theorem look_v (hg : o.guard = none) (m x : Operand) (hop : o.op = Op.lookup 116 m x false) (hm : a.eval m = .map (some b)) (h : GMap w b rs) (k : List UInt8) (hx : a.eval x = .string ⟨k.toArray⟩) (hk : k.length ≤ maxLen)
    (hK : wpList Tryz.prog ops Q rest (a.put o.dst (lookG rs k)) w) : wpList Tryz.prog ops Q (o :: rest) a w := by
  refine wpList_plain hg fun K' hK' => ?_
  obtain ⟨v, ps, hrun, hv⟩ := h.1.lookup K_str u_map (z_bytes w) (zd := .held (.slice none 0 0)) (zp := []) rfl (key := .string ⟨k.toArray⟩) (kl := .string k) (by simpa using WideMaps.keyOf_string_mk u_str (s := ⟨k.toArray⟩) (by simpa [ByteArray.size] using hk))
  rw [mapD_at rs k h.2] at hv
  unfold RV at hv
  injection hv with hv
  injection hv with hv
  injection hv with hv
  subst hv
  unfold Oper.wp
  simp [execOp, hop, hm, hx, hrun, Result.andThen]
  exact hK' _ _ hK
theorem store_v (hg : o.guard = none) (m x v : Operand) (hop : o.op = Op.mapUpdate 116 m x v) (hm : a.eval m = .map (some b)) (h : GMap w b rs) (k : List UInt8) (hx : a.eval x = .string ⟨k.toArray⟩) (hk : k.length ≤ maxLen)
    (hn : rs.length ≤ 1000000) (val : Value) (hv : a.eval v = val) (hnew : hasG rs k = false)
    (hK : ∀ w', GMap w' b (rs ++ [(k, val)]) → Only w w' (fun i => i = b) → wpList Tryz.prog ops Q rest (a.put o.dst undef) w') : wpList Tryz.prog ops Q (o :: rest) a w := by
  refine wpList_mapUpdate_own w hg m x v _ hop _ _ K_str u_map RV b _ _ hm h.1 (by unfold maxLen; omega) _ val (.string k) hx hv (by simpa using WideMaps.keyOf_string_mk u_str (s := ⟨k.toArray⟩) (by simpa [ByteArray.size] using hk)) (.held val) [] rfl (fun w' hown hgr => ?_)
  refine hK w' ⟨?_, ?_⟩ ((Only.refl w _).grown hgr (fun k hk => by injection hk with hk; exact .inl hk.symm))
  · rw [mapD_snoc]; simpa using hown
  · rw [List.map_append, List.nodup_append]
    refine ⟨h.2, by simp, fun x hx y hy e => ?_⟩
    simp at hy
    subst hy; subst e
    exact (hasG_false.1 hnew) (by assumption)
end
end Go.Proofs.YtafdhccdjbfepaaGreat.Lst
/- The walk of take. -/
namespace Go.Proofs.YtafdhccdjbfepaaGreat.Lst
open Go.RowKit Go.Maps Go.Proofs.YtafdhccdjbfepaaGreat.K Go.Proofs.YtafdhccdjbfepaaGreat.Help Go.Proofs.YtafdhccdjbfepaaGreat.Pfx Go.Proofs.YtafdhccdjbfepaaGreat.Peer
set_option linter.unusedVariables false

/-- behind a row taken -/
def TookM (w : World) (b : Nat) (rs : List GRow) (k : List UInt8) (v : Value) (e : Ending) (w' : World) : Prop :=
  (hasG rs k = true ∧ e = .returned (.bool false) ∧ GMap w' b rs ∧ Only w w' (fun i => i = b)) ∨ (hasG rs k = false ∧ e = .returned (.bool true) ∧ GMap w' b (rs ++ [(k, v)]) ∧ Only w w' (fun i => i = b))
set_option maxRecDepth 100000 in
set_option maxHeartbeats 1000000 in
theorem take_any (b : Nat) (rs : List GRow) (A B : Option Addr) (a c n : Nat) (k : List UInt8) (w : World) (hg : GMap w b rs) (hk : Bs w A a k) (hn : rs.length ≤ 1000) :
    Calls Tryz.prog 93 #[.map (some b), .agg #[.slice A k.length a, .slice B n c]] w (TookM w b rs k (.slice B n c)) := by
  have HB := Lib.hid (below_alloc (Below.refl w.heap.size w) (.cells #[Value.slice A k.length a, .slice B n c] 47))
  have G := Lib.hid (hg.keep HB.out)
  have S := str_of A a k _ (hk.below HB.out)
  have hkl : k.length ≤ maxLen := by have h1 := hk.le; have h2 := hk.max; simp only [maxLen]; omega
  have HKL := Lib.hid hkl
  have HN := Lib.hid hn
  have X := blk_new w (.cells #[Value.slice A k.length a, .slice B n c] 47)
  have x0 := blk_cell X 0
  have x1 := blk_cell X 1
  simp only [List.getElem?_toArray, List.getElem?_cons_zero, List.getElem?_cons_succ] at x0 x1
  have HO : Hid (Only w (w.alloc (.cells #[Value.slice A k.length a, .slice B n c] 47)) (fun i => i = b)) := Lib.hid (Only.of_below HB.out _)
  clear hg hk hkl hn HB X
  rcases hh : hasG rs k with _ | _
  · have HH := Lib.hid hh
    clear hh
    go_enter Tryz.func93, Tryz.ntmps93
    go_wp2_with (first
      | (at_lookup; refine look_ok rfl _ _ rfl rfl G.out k rfl HKL.out ?_; rw [HH.out])
      | (at_mapUpdate; refine store_v rfl _ _ _ rfl rfl G.out k rfl HKL.out (by have := HN.out; omega) _ rfl HH.out ?_; intro w1 g1 k1)
      | go_in)
    go_ret
    exact .inr ⟨HH.out, rfl, g1, HO.out.then_ k1 (fun i h => .inl h)⟩
  · have HH := Lib.hid hh
    clear hh
    go_enter Tryz.func93, Tryz.ntmps93
    go_wp2_with (first
      | (at_lookup; refine look_ok rfl _ _ rfl rfl G.out k rfl HKL.out ?_; rw [HH.out])
      | go_in)
    go_ret
    exact .inl ⟨HH.out, rfl, G.out, HO.out⟩
end Go.Proofs.YtafdhccdjbfepaaGreat.Lst
/- The sort of strings, laid at the program; the walk of keys. -/
namespace Go.Proofs.YtafdhccdjbfepaaGreat.Lst
open Go.RowKit Go.Maps Go.Sort Go.Shelf Go.Proofs.YtafdhccdjbfepaaGreat.K Go.Proofs.YtafdhccdjbfepaaGreat.Help Go.Proofs.YtafdhccdjbfepaaGreat.Pfx Go.Proofs.YtafdhccdjbfepaaGreat.Peer
set_option linter.unusedVariables false

def layS_ren : Go.Shelf.Ren := ⟨fun | 190 => 111 | 125 => 113 | 258 => 133 | 128 => 142 | 129 => 143 | 302 => 148 | 303 => 149 | 304 => 150 | 305 => 151 | 306 => 152 | 307 => 153 | 308 => 154 | 309 => 155 | 310 => 156 | 333 => 162 | 329 => 158 | 330 => 159 | 334 => 163 | 335 => 164 | 336 => 165 | 344 => 167 | n => n, fun | 31 => 119 | 9 => 9 | 3 => 3 | 46 => 136 | 0 => 0 | 51 => 74 | 53 => 39 | 4 => 4 | 183 => 179 | 182 => 178 | 131 => 183 | 5 => 5 | 218 => 197 | 222 => 201 | 228 => 206 | 229 => 95 | n => n, fun | n => n⟩
theorem layS : Go.Proofs.Lays.n190 Tryz.prog layS_ren := {
  mixed := by kernel_rfl
  f125 := Tryz.func113.trans (congrArg some (by kernel_rfl))
  f128 := Tryz.func142.trans (congrArg some (by kernel_rfl))
  f129 := Tryz.func143.trans (congrArg some (by kernel_rfl))
  f190 := Tryz.func111.trans (congrArg some (by kernel_rfl))
  f258 := Tryz.func133.trans (congrArg some (by kernel_rfl))
  f302 := Tryz.func148.trans (congrArg some (by kernel_rfl))
  f303 := Tryz.func149.trans (congrArg some (by kernel_rfl))
  f304 := Tryz.func150.trans (congrArg some (by kernel_rfl))
  f305 := Tryz.func151.trans (congrArg some (by kernel_rfl))
  f306 := Tryz.func152.trans (congrArg some (by kernel_rfl))
  f307 := Tryz.func153.trans (congrArg some (by kernel_rfl))
  f308 := Tryz.func154.trans (congrArg some (by kernel_rfl))
  f309 := Tryz.func155.trans (congrArg some (by kernel_rfl))
  f310 := Tryz.func156.trans (congrArg some (by kernel_rfl))
  f329 := Tryz.func158.trans (congrArg some (by kernel_rfl))
  f330 := Tryz.func159.trans (congrArg some (by kernel_rfl))
  f333 := Tryz.func162.trans (congrArg some (by kernel_rfl))
  f334 := Tryz.func163.trans (congrArg some (by kernel_rfl))
  f335 := Tryz.func164.trans (congrArg some (by kernel_rfl))
  f336 := Tryz.func165.trans (congrArg some (by kernel_rfl))
  f344 := Tryz.func167.trans (congrArg some (by kernel_rfl))
  t0 := Tryz.underlying0
  a0 := Tryz.isAgg0
  z0 := Tryz.sizeOf0
  v0 := Tryz.zeroValue0
  t3 := Tryz.underlying3
  a3 := Tryz.isAgg3
  z3 := Tryz.sizeOf3
  v3 := Tryz.zeroValue3
  t4 := Tryz.underlying4
  a4 := Tryz.isAgg4
  z4 := Tryz.sizeOf4
  v4 := Tryz.zeroValue4
  t5 := Tryz.underlying5
  a5 := Tryz.isAgg5
  z5 := Tryz.sizeOf5
  v5 := Tryz.zeroValue5
  t9 := Tryz.underlying9
  a9 := Tryz.isAgg9
  z9 := Tryz.sizeOf9
  v9 := Tryz.zeroValue9
  t31 := Tryz.underlying119
  a31 := Tryz.isAgg119
  z31 := Tryz.sizeOf119
  v31 := Tryz.zeroValue119
  t46 := Tryz.underlying136
  a46 := Tryz.isAgg136
  z46 := Tryz.sizeOf136
  v46 := Tryz.zeroValue136
  t51 := Tryz.underlying74
  a51 := Tryz.isAgg74
  z51 := Tryz.sizeOf74
  v51 := Tryz.zeroValue74
  t53 := Tryz.underlying39
  a53 := Tryz.isAgg39
  z53 := Tryz.sizeOf39
  v53 := Tryz.zeroValue39
  t131 := Tryz.underlying183
  a131 := Tryz.isAgg183
  z131 := Tryz.sizeOf183
  v131 := Tryz.zeroValue183
  t182 := Tryz.underlying178
  a182 := Tryz.isAgg178
  z182 := Tryz.sizeOf178
  v182 := Tryz.zeroValue178
  t183 := Tryz.underlying179
  a183 := Tryz.isAgg179
  z183 := Tryz.sizeOf179
  v183 := Tryz.zeroValue179
  t218 := Tryz.underlying197
  a218 := Tryz.isAgg197
  z218 := Tryz.sizeOf197
  v218 := Tryz.zeroValue197
  t222 := Tryz.underlying201
  a222 := Tryz.isAgg201
  z222 := Tryz.sizeOf201
  v222 := Tryz.zeroValue201
  t228 := Tryz.underlying206
  a228 := Tryz.isAgg206
  z228 := Tryz.sizeOf206
  v228 := Tryz.zeroValue206
  t229 := Tryz.underlying95
  a229 := Tryz.isAgg95
  z229 := Tryz.sizeOf95
  v229 := Tryz.zeroValue95 }
def StrR (w : World) (N : Nat → Prop) (raw : List Value) (x : List UInt8) : Prop := raw = [encStr x]
def StrE : Elem (List UInt8) where
  sz := 1
  R := StrR
  len := fun h => by rw [h]; rfl
  one := fun h u hu => by
    rw [h] at hu
    simp only [List.mem_cons, List.not_mem_nil, or_false] at hu
    subst hu
    rfl
  below := fun h _ => h
  only := fun h _ _ => h
  reno := fun h _ => h
theorem info_str : (Tryz.prog.info? 9).map (fun i => (i.zero, i.size, i.bytes)) = some (some (.string ⟨#[]⟩), 1, 16) := by kernel_rfl
theorem own_strs {w : World} {B : Nat} {v : Value} {ss : List (List UInt8)} (h : w.ownsRow B 9 1 v ss.length (ss.map encStr)) (hm : ss.length ≤ 1000000000000) : OwnL StrE 9 w (fun _ => False) B v ss := by
  refine ⟨ss.map (fun x => [encStr x]), by simp, ?_, hm, fun i x raw hx hr => ?_⟩
  · have : (ss.map (fun x => [encStr x])).flatten = ss.map encStr := by
      clear h hm
      induction ss with
      | nil => rfl
      | cons a t ih => simp [ih]
    rw [this]
    exact h
  · rw [List.getElem?_map, hx] at hr
    simp at hr
    exact hr.symm
/-- the keys in order -/
def keysOf (rs : List GRow) : List (List UInt8) := (rs.map Prod.fst).mergeSort (fun x y => decide (x ≤ y))
set_option maxRecDepth 100000 in
set_option maxHeartbeats 1000000 in
theorem keys_nw (b : Nat) (rs : List GRow) (w : World) (hg : GMap w b rs) (hn : rs.length ≤ 1000) :
    Calls Tryz.prog 70 #[.map (some b)] w (fun e w' => ∃ A c, e = .returned (.slice A (keysOf rs).length c) ∧ Lst StrE w' (fun _ => False) A c (keysOf rs) ∧ Below w.heap.size w w' ∧ Nw w A) := by
  obtain ⟨i0, hi, hz⟩ := Option.map_eq_some_iff.1 info_str
  simp only [Prod.mk.injEq] at hz
  obtain ⟨hz0, hz1, hz2⟩ := hz
  have HI := Lib.hid hi
  have HZ0 := Lib.hid hz0
  have HZ1 := Lib.hid hz1
  have HZ2 := Lib.hid hz2
  clear hi hz0 hz1 hz2
  have G := Lib.hid hg
  have HN := Lib.hid hn
  have HS := Lib.hid hg.size_le
  have hbl := hg.lt
  have HBL := Lib.hid hbl
  have HK := Lib.hid hg.keys
  clear hg hn hbl
  go_enter Tryz.func70, Tryz.ntmps70
  go_wp2_with (first
    | (at_range; refine wpList_range_own _ rfl _ 116 rfl 9 33 K_str u_map _ b _ _ rfl G.out.1 ?_; intro w0 hrg0 hg0 hs0)
    | go_in)
  go_frame
  have HG0 := Lib.hid hg0
  have HRG0 := Lib.hid hrg0
  clear hg0 hrg0 hs0
  go_loopw [3] (fun v wr => ∃ (left : Lit → Bool) (cnt : Nat) (ss : List (List UInt8)), wr.ranges Tryz.prog 9 RV b w.heap.size rs.length (mapD rs) left cnt ∧ Hid (ss.length + cnt ≤ Maps.size (mapD rs)) ∧
      wr.ownsRow w.heap.size 9 1 v ss.length (ss.map encStr) ∧ Collected (mapD rs) left ss ∧ Below w.heap.size w wr)
    (fun _ wr => wr.rangeLeft b w.heap.size)
  case atStart =>
    exact ⟨_, _, [], HRG0.out, by simp [Hid], ⟨by simp, .inl ⟨rfl, rfl⟩⟩, Collected.start _, (Below.refl _ _).grown HG0.out (Nat.le_refl _) (fun j hj => by cases hj)⟩
  case round =>
    obtain ⟨left, cnt, ss, hrg, hcs, hrow, hC, hnx⟩ := hrel
    go_wp2_with (first
      | (at_next; refine wpList_next_ranges _ rfl _ rfl 9 K_str RV encStr (fun v : Value => v) (fun key kl hk => by obtain ⟨x, hx, _⟩ := Maps.keyOf_str u_str hk; exact ⟨x, hx⟩) (fun v y hv => ⟨v, rfl⟩) b w.heap.size _ _ _ _ rfl hrg ?_ ?_)
      | go_in)
    · intro hc0 hl0
      have hss : ss.length ≤ 1000 := by have h1 := hcs.out; have h2 := HS.out; have h3 := HN.out; omega
      have HKS : Hid (keysOf rs = ss.mergeSort (fun x y => decide (x ≤ y))) := Lib.hid (mergeSort_of_perm (HK.out.trans (hC.perm G.out.1 K_str u_str hl0).symm))
      clear hC hcs hrg hl0 hc0
      rcases hrow.2 with ⟨rfl, hnil⟩ | ⟨g, cap, cur, rfl, hbase, hb, h1, h2, h3, h4⟩
      · obtain rfl : ss = [] := List.eq_nil_of_length_eq_zero hnil
        have hc : Calls Tryz.prog 111 #[.slice none 0 0] wr _ := Any.slices_Sort_string_none layS none 0 wr
        clear hrow hss
        go_wp2_with fail
        refine hc.mono ?_
        rintro e w' ⟨rfl, rfl⟩
        have hks : keysOf rs = [] := by rw [HKS.out]; simp
        go_wp2_with fail
        go_ret
        exact ⟨none, 0, by rw [hks]; rfl, by rw [hks]; exact Lst.nil _ _, hnx, Nw.none _⟩
      · have hH : Holds encStr wr g 0 ss.toArray := holds_of_block hb (by simpa using h4)
        have hgl : g < wr.heap.size := (Array.getElem?_eq_some_iff.1 hb).1
        have hc : Calls Tryz.prog 111 #[.slice (some ⟨g, 0, none⟩) ss.length cap] wr _ := Any.slices_Sort_string layS g 0 cap ss wr hH hgl (by omega)
        clear hH hgl h4
        go_wp2_with fail
        refine hc.mono ?_
        rintro e w' ⟨rfl, nn, os, hw⟩
        have ho := ownsRow_sorted (os := os) (n := nn) (ss := ss) (ts := ss.mergeSort (fun x y => decide (x ≤ y))) (by simp) hbase hb h1 h2 h3
        rw [← hw, ← HKS.out] at ho
        have hlen : (keysOf rs).length = ss.length := by rw [HKS.out]; simp
        rw [← hlen] at ho
        have hb' := hnx.grown (grownBy_sorted (w := wr) (g := g) (n := nn) (os := os) (ss.mergeSort (fun x y => decide (x ≤ y))).toArray) hnx.size (fun j hj => by cases hj; exact hbase)
        rw [← hw] at hb'
        have HO := Lib.hid ho
        have HB := Lib.hid hb'
        have HL := Lib.hid hlen
        clear ho hb' hw hlen hbase hb h1 h2 h3 hrow hnx hc
        go_wp2_with fail
        go_ret
        have hO := own_strs HO.out (by have := HL.out; omega)
        obtain ⟨A, c, e, hl⟩ := OwnL.lst hO (fun _ _ h => h)
        rw [e] at hO
        rw [← HL.out]
        exact ⟨A, c, congrArg Ending.returned e, hl, HB.out, hO.nw (Nat.le_refl _)⟩
    · intro x c kl yd yp w2 cnt2 hkey hlk hv hat hrg2 hlt hg2 hs2 hen
      obtain ⟨x', ex, rfl, _⟩ := Maps.keyOf_str u_str hkey
      obtain rfl : x = x' := encStr_inj ex
      have hrow2 := hrow.kept hg2 (Or.inr (row_ne_iter hrow hrg).symm)
      have HC := Lib.hid hcs.out
      have HLT := Lib.hid hlt
      have HX := Lib.hid hnx
      have HG2 := Lib.hid hg2
      have HRG2 := Lib.hid hrg2
      have HRG := Lib.hid hrg
      have HCC := Lib.hid hC
      have HLK := Lib.hid hlk
      have HAT := Lib.hid hat
      have HR2 := Lib.hid hrow2
      have hb1 : ss.length + 1 ≤ 1001 := by have h1 := hcs.out; have h2 := HS.out; have h3 := HN.out; omega
      have HB1 := Lib.hid hb1
      clear hs2 hcs hlt hnx hg2 hrg2 hrg hC hlk hat hrow2 hrow hb1 hkey hv ex
      go_wp2_with (first
        | (at_builtin; refine wpList_append_own _ rfl _ _ 119 rfl w.heap.size 9 i0 (.string ⟨#[]⟩) 1 16 Tryz.underlying119 HI.out HZ0.out HZ1.out HZ2.out rfl (by decide) _ _ _ rfl (HR2.out.alloc _) ⟨w2.heap.size, 0, none⟩ 1 1 [encStr x] rfl rfl (cell_one_new _ _ _) (by simp [Value.oneCell', encStr]) (by have := HB1.out; simp only [maxLen]; omega) (by have := HB1.out; omega) (by have := HX.out.size; have := HG2.out.size; simp; omega) ?_; intro v' w3 hown' hg3 hnil3; go_frame)
        | go_in)
      have hrg3 := (HRG2.out.alloc _).kept hg3 (row_ne_low HR2.out HBL.out) (row_ne_iter HR2.out HRG2.out)
      go_roundw
      case rel =>
        refine ⟨_, cnt2, ss ++ [x], hrg3, by have := HC.out; have := HLT.out; simp [Hid]; omega, by simpa using hown', HCC.out.step HLK.out HAT.out, ?_⟩
        exact ((HX.out.grown HG2.out HX.out.size (fun j hj => by cases hj; exact Nat.le_refl _)).alloc (by have := HX.out.size; have := HG2.out.size; omega) _).grown hg3 (by have := HX.out.size; have := HG2.out.size; simp; omega) (fun j hj => (HR2.out.lt j hj).1)
      case measure => rw [hrg3.left_eq, HRG.out.left_eq]; exact HLT.out
theorem keys_any (b : Nat) (rs : List GRow) (w : World) (hg : GMap w b rs) (hn : rs.length ≤ 1000) :
    Calls Tryz.prog 70 #[.map (some b)] w (fun e w' => ∃ A c, e = .returned (.slice A (keysOf rs).length c) ∧ Lst StrE w' (fun _ => False) A c (keysOf rs) ∧ Below w.heap.size w w') :=
  (keys_nw b rs w hg hn).mono fun e w' ⟨A, c, h1, h2, h3, _⟩ => ⟨A, c, h1, h2, h3⟩
end Go.Proofs.YtafdhccdjbfepaaGreat.Lst
