/- Contracts of the functions that RowsBack reaches: part 4 of 4. -/
import Derived.Test.YtgbjhlkjceonpaaRowsBackB3
/- The walk of the document's GetPeer. -/
namespace Go.Proofs.Ytgbjhlkjceonpaa.Peer
open Go.RowKit Go.Proofs.Ytgbjhlkjceonpaa.K Go.Proofs.Ytgbjhlkjceonpaa.Help Go.Proofs.Ytgbjhlkjceonpaa.Pfx
set_option linter.unusedVariables false

set_option maxRecDepth 100000 in
set_option maxHeartbeats 4000000 in
theorem refGetPeer_len (A B : Option Addr) (c d : Nat) (k v : List UInt8) (w : World) (ha : Bs w A c k) (hb : Bs w B d v) (hk : k.length = 5) (hv : 33 ≤ v.length) :
    Calls Try.prog 26 #[.agg #[.slice A k.length c, .slice B v.length d]] w (GotP w (peerGet k v)) := by
  obtain ⟨bd, rfl, hbdb, hbc0⟩ := hb.at_ 0 (by omega)
  rw [show bd.add 0 = bd by simp [Addr.add]] at hbc0
  obtain ⟨bb, bo, rfl⟩ : ∃ b o, bd = ⟨b, o, none⟩ := ⟨_, _, cell_spot hbc0⟩
  have hbc : w.cell? ⟨bb, bo + 32, none⟩ = some (.int .u8 ((v.getD 32 0).toNat : Int)) := by
    obtain ⟨ad, e, -, h2⟩ := hb.at_ 32 (by omega)
    cases e
    have hda : (⟨bb, bo, none⟩ : Addr).add 32 = ⟨bb, bo + 32, none⟩ := by simp [Addr.add]
    rwa [hda] at h2
  dsimp only at hbdb
  clear hbc0
  have hdne : ¬ d = 32 := by have := hb.le; omega
  have hbc2 := hb.le
  have hvm := hb.max
  have HR := Lib.hid (peerRd_len hk hv)
  have HA := Lib.hid ha
  have HB := Lib.hid hb
  have H0 := Lib.hid (PZ.start 29 w #[.slice A k.length c, .slice (some ⟨bb, bo, none⟩) v.length d])
  have g1 : ((k.length : Int) != 5) = false := by rw [bne_eq_false_iff_eq]; omega
  have i1b : decide ((v.length : Int) < 33) = false := by simp; omega
  have i1 : (33 : Int) ≤ (v.length : Int) := by omega
  have i2 : (v.length : Int) ≤ (d : Int) := by omega
  have i3 : (32 : Int) < (v.length : Int) := by omega
  have i4 : (32 : Int) ≤ (v.length : Int) := by omega
  have i5 : (32 : Int) ≤ (d : Int) := by omega
  have hkl : 5 ≤ k.length := by omega
  have HKV := Lib.hid (show k.length = 5 ∧ 33 ≤ v.length from ⟨hk, hv⟩)
  clear ha hb hk
  have bd0 : Bs w (some ⟨bb, bo, none⟩) d (v.take 32) := ⟨by rw [List.length_take]; omega, by rw [List.length_take]; omega, fun i hi => by
    rw [List.length_take] at hi
    obtain ⟨ad, e, h1, h2⟩ := HB.out.at_ i (by omega)
    refine ⟨ad, e, h1, h2.trans ?_⟩
    rw [take_getD v i 32 (by omega)]⟩
  have htl : (v.take 32).length = 32 := by rw [List.length_take]; omega
  have BY := Lib.hid (fun W h => Help.bytes (some ⟨bb, bo, none⟩) d (v.take 32) W h)
  rw [htl] at BY
  have BD := Lib.hid bd0
  have HTL := Lib.hid htl
  clear bd0 htl
  have HRD := Lib.hid (fun W h => Help.read A c k 1 4 W h (by decide) (by decide))
  have hrb : rdAt k 1 4 < 4294967296 := Nat.lt_of_lt_of_le (rdAt_pow k 1 4) (by decide)
  have hb0 := (v.getD 32 0).toNat_lt
  rw [← rdAt_cut (v := k) (a := 1) (n := 4) (by omega)] at HR
  generalize rdAt k 1 4 = link at *
  generalize (v.getD 32 0).toNat = x0 at *
  generalize hkt : v.take 32 = key at *
  clear hkt
  generalize hg : peerGet k v = got
  have HG := Lib.hid hg
  clear hg
  unfold peerGet at HG
  rw [HR.out] at HG
  clear HR
  generalize hnv : v.length = nv at *
  generalize hnk : k.length = nk at *
  have HNV := Lib.hid hnv
  have HNK := Lib.hid hnk
  clear hnv hnk
  go_enter Try.func26, Try.ntmps26
  go_upto_region 3 with fail
  go_cut [4] (fun s wx => QCut w (.slice A nk c) (.slice (some ⟨bb, bo, none⟩) nv d) link key s wx)
  case first =>
    have hlt0 := H0.out.lt
    unfold zpC peC at H0
    generalize (w.alloc (.cells #[.slice A nk c, .slice (some ⟨bb, bo, none⟩) nv d] 29)).alloc (.cells #[.int .i64 0, .slice none 0 0, .slice none 0 0] 55) = W0 at H0 ⊢
    have s0 : W0.cell? ⟨w.heap.size, 0, none⟩ = some (.slice A nk c) := H0.out.cell 0
    have s1 : W0.cell? ⟨w.heap.size, 1, none⟩ = some (.slice (some ⟨bb, bo, none⟩) nv d) := H0.out.cell 1
    have hw64 : IntKind.i64.wrap (link : Int) = link := IntWalk.i64_in _ (by omega)
    go_region_held3 (fun w' => w'.cell? ⟨w.heap.size, 0, none⟩ = some (.slice A nk c) ∧ w'.cell? ⟨w.heap.size, 1, none⟩ = some (.slice (some ⟨bb, bo, none⟩) nv d)) (first | go_keep | exact ⟨d0, d1⟩)
      (first
      | (go_at_call 38; refine (BY.out _ (by first | exact H0.out.bs BD.out | exact (H0.out.bs BD.out).drewN _ | exact (H0.out.bs BD.out).below (below_alloc (Below.refl _ _) _) | exact ((H0.out.bs BD.out).below (below_alloc (Below.refl _ _) _)).drewN _)).mono ?_
         rintro e w1 ⟨v1', rfl, o1, hb1⟩
         obtain ⟨A1, c1, rfl, t1⟩ := o1.bs
         have h1 : PZ 29 w w1 #[.slice A nk c, .slice (some ⟨bb, bo, none⟩) nv d] := (by first | exact H0.out.step hb1 | exact (H0.out.step (below_drewN (Below.refl _ _) _)).step hb1 | exact (H0.out.step (below_alloc (Below.refl _ _) _)).step hb1 | exact ((H0.out.step (below_alloc (Below.refl _ _) _)).step (below_drewN (Below.refl _ _) _)).step hb1)
         have d0 : w1.cell? ⟨w.heap.size, 0, none⟩ = some (.slice A nk c) := h1.cell 0
         have d1 : w1.cell? ⟨w.heap.size, 1, none⟩ = some (.slice (some ⟨bb, bo, none⟩) nv d) := h1.cell 1
         have H1 := Lib.hid h1
         have S1 := Lib.hid t1
         have P1 := Lib.hid (show PersP _ w1 from fun g cs fr h => (hb1.block _ (blk_lt h)).trans h)
         clear o1 hb1 t1 h1
         (try (have zA := P1.out _ _ _ (blk_new W0 _); obtain ⟨ya0, ya1, ya2, yb0, yb1, yb2⟩ := zero_pcells zA; have ZA := Lib.hid zA; have nA1 : ¬ w.heap.size = W0.heap.size := (by have := H0.out.lt; omega); have nA2 : ¬ W0.heap.size = w.heap.size := (by have := H0.out.lt; omega); clear zA)))
      | (go_at_call 51; refine (HRD.out _ (by first | exact H0.out.bs HA.out | exact (H0.out.bs HA.out).drewN 1 | exact (H0.out.bs HA.out).drewN _ | exact (H0.out.bs HA.out).below (below_alloc (Below.refl _ _) _) | exact ((H0.out.bs HA.out).below (below_alloc (Below.refl _ _) _)).drewN _ | exact H1.out.bs HA.out | exact (H1.out.bs HA.out).drewN 1 | exact (H1.out.bs HA.out).drewN _ | exact (H1.out.bs HA.out).below (below_alloc (Below.refl _ _) _) | exact ((H1.out.bs HA.out).below (below_alloc (Below.refl _ _) _)).drewN _)).mono ?_; rintro e w' ⟨rfl, rfl⟩))
    all_goals
      go_wp2_with fail
      go_meet
      first
      | exact QCut.new H1.out S1.out
      | exact QCut.mk' H1.out S1.out ZA.out H0.out.lt
  case rest =>
    obtain ⟨X, A2, a2, rfl, hr, hs, hX, hlt⟩ := hcut
    have HX := Lib.hid hX
    have HZ := Lib.hid hr
    have HS := Lib.hid hs
    have HBC := Lib.hid (HB.out.below hr.below)
    have HXL := Lib.hid hlt
    have HXW : Hid (X < wc.heap.size) := Lib.hid (blk_lt hX.b)
    have hbcc : wc.cell? ⟨bb, bo + 32, none⟩ = some (.int .u8 x0) := (hr.below.cell (p := ⟨bb, bo + 32, none⟩) hbdb).trans hbc
    have HC32 := Lib.hid hbcc
    clear hr hs hX hlt hbc hbcc
    have hx0 : (0 : Int) ≤ (x0 : Int) := by omega
    go_wp2_with fail
    go_loopg [6, 5] x0 (fun gk i s wr => ∃ (n p : Nat) (ps : List PfxI) (B : Option Addr) (b : Nat), n ≤ x0 ∧ gk = x0 - n ∧ i = .int .i64 (n : Int) ∧ s = .int .i64 (p : Int) ∧ p ≤ nv ∧ getN n (v.drop 33) = some (ps, v.drop p) ∧ PLoop wc wr X link A2 key.length a2 (.slice B ps.length b) ps)
    case atStart => exact ⟨0, 33, [], none, 0, by omega, rfl, rfl, rfl, by omega, rfl, ⟨HX.out.b, OwnP.nil _ _, Only.refl _ _, HXW.out⟩⟩
    case round =>
      obtain ⟨n, p, ps, B, b, hn, rfl, rfl, rfl, hp, hg, hL⟩ := hrel
      have HGN := Lib.hid hg
      have HL := Lib.hid hL
      have HZR : Hid (PZ 29 w wr #[.slice A nk c, .slice (some ⟨bb, bo, none⟩) nv d]) := Lib.hid (HZ.out.only hL.on (fun i hi => by rw [hi]; exact HXL.out))
      have HBR := Lib.hid (HX.out.bs HBC.out hL.on)
      have HSR := Lib.hid (HX.out.bs HS.out hL.on)
      have c1 : wr.cell? ⟨w.heap.size, 1, none⟩ = some (.slice (some ⟨bb, bo, none⟩) nv d) := HZR.out.cell 1
      have c32 : wr.cell? ⟨bb, bo + 32, none⟩ = some (.int .u8 x0) :=
        (cell_blk (ad := ⟨bb, bo + 32, none⟩) (hL.on.block bb (by have := HXW.out; have := HXL.out; omega) (by have := HXL.out; omega))).trans HC32.out
      clear hg hL
      by_cases hlt : n < x0
      · have hlt2 : (n : Int) < x0 := by omega
        have hn0 : (0 : Int) ≤ (n : Int) := by omega
        obtain ⟨A9, hcut, hcb⟩ := bs_cut (some ⟨bb, bo, none⟩) d v p (by rw [HNV.out]; exact hp)
        rw [HNV.out] at hcut
        have HCB := Lib.hid (hcb wr HBR.out)
        have V := Lib.hid (refGetP_any A9 (d - p) (v.drop p) wr HCB.out)
        have HP := Lib.hid (pfxGet_b (v.drop p))
        obtain ⟨⟨⟨fam, hi, lo, bits⟩, m, er⟩, hpg⟩ : ∃ r, pfxGet (v.drop p) = r := ⟨_, rfl⟩
        rw [hpg] at V HP
        rw [List.length_drop, HNV.out] at V HP
        have HPG := Lib.hid hpg
        clear hpg hcb
        unfold pgV pfV at V
        dsimp only at V HP
        have hp0 : (0 : Int) ≤ (p : Int) := by omega
        have hpn : (p : Int) ≤ (nv : Int) := by omega
        go_wp2_with fail
        refine V.out.mono ?_
        rintro e w7 ⟨rfl, hb7⟩
        have L7 := Lib.hid (HL.out.below hb7)
        have Z7 := Lib.hid (HZR.out.step hb7)
        clear hb7
        by_cases he : er = 0
        · subst he
          have hn := HP.out.2.2.1 rfl
          have hm1 := hn.1
          have hm2 : (p : Int) + (m : Int) ≤ (nv : Int) := by have := hn.2; omega
          have HQ := Lib.hid (getN_step HGN.out HPG.out)
          have hba := below_alloc (below_alloc (Below.refl w7.heap.size w7) (.cells #[.int .i64 fam, .int .u64 (hi : Int), .int .u64 (lo : Int), .int .i64 (bits : Int)] 109)) (.cells #[.int .i64 fam, .int .u64 (hi : Int), .int .u64 (lo : Int), .int .i64 (bits : Int)] 109)
          have L8 := Lib.hid (L7.out.below hba)
          have X8 : Hid (((w7.alloc (.cells #[.int .i64 fam, .int .u64 (hi : Int), .int .u64 (lo : Int), .int .i64 (bits : Int)] 109)).alloc (.cells #[.int .i64 fam, .int .u64 (hi : Int), .int .u64 (lo : Int), .int .i64 (bits : Int)] 109)).heap[w7.heap.size + 1]? = some (.cells (pcs (fam, hi, lo, (bits : Int))).toArray 109 (0, 0))) := by
            have := blk_new (w7.alloc (.cells #[.int .i64 fam, .int .u64 (hi : Int), .int .u64 (lo : Int), .int .i64 (bits : Int)] 109)) (.cells #[.int .i64 fam, .int .u64 (hi : Int), .int .u64 (lo : Int), .int .i64 (bits : Int)] 109)
            rw [show (w7.alloc (.cells #[.int .i64 fam, .int .u64 (hi : Int), .int .u64 (lo : Int), .int .i64 (bits : Int)] 109)).heap.size = w7.heap.size + 1 by simp] at this
            exact this
          have c2a := (L7.out.below (below_alloc (Below.refl w7.heap.size w7) (.cells #[.int .i64 fam, .int .u64 (hi : Int), .int .u64 (lo : Int), .int .i64 (bits : Int)] 109))).c2
          have HPS : Hid (ps.length ≤ 100000) := by rw [Hid, getN_len HGN.out]; omega
          have hdr : (v.drop p).drop m = v.drop (p + m) := List.drop_drop ..
          rw [hdr] at HQ
          clear hba hdr
          go_wp2_with (at_builtin; refine push_pfx (B := wc.heap.size) (W0 := _) rfl (.tmp 55) (.tmp 57) rfl (.slice B ps.length b) ps (fam, hi, lo, (bits : Int)) (w7.heap.size + 1) 1 rfl rfl L8.out.own X8.out ⟨HP.out.1, HP.out.2.1⟩ (Below.refl _ _) L8.out.on.size HPS.out ?_; intro A3 c3 w8 o8 _ k8; obtain ⟨g1, g2, g3⟩ := L8.out.grow o8 k8; have L9 := Lib.hid g3; clear o8 k8 g3)
          go_roundg (x0 - (n + 1))
          case measure => omega
          case rel => exact ⟨n + 1, p + m, ps ++ [(fam, hi, lo, (bits : Int))], A3, c3, by omega, rfl, by go_num, by go_num, by omega, HQ.out, by simpa using L9.out⟩
        · have hen : (er != 0) = true := by simpa using he
          have HQ := Lib.hid (getN_stop HGN.out HPG.out he)
          have HGB : Hid (got = (zeroPeer, 114)) := by
            have := HG.out
            unfold peerOf at this
            rw [getN_none HQ.out (by omega)] at this
            dsimp only at this
            rw [putPeer_bad zeroPeer_bad, if_neg (by simp)] at this
            exact this.symm
          have hba := below_alloc (Below.refl w7.heap.size w7) (.cells #[.int .i64 fam, .int .u64 (hi : Int), .int .u64 (lo : Int), .int .i64 (bits : Int)] 109)
          have Z8 := Lib.hid (Z7.out.step hba)
          clear hba
          obtain ⟨r0, r1, r2, z0, z1, z2⟩ := Z8.out.r.cells
          have FF := Lib.hid (Z8.out.fin zeroPeer (A2 := none) (a2 := 0) (B2 := none) (b2 := 0) (Bs.nil _ _ _) (Ps.nil _))
          have JJ := Lib.hid FF.out.1.cells
          unfold fill3 zeroPeer at JJ
          dsimp only [List.length_nil] at JJ
          have hG := HGB.out
          subst hG
          go_wp2_with fail
          obtain ⟨j0, j1, j2, -, -, -⟩ := JJ.out
          exact bodyPost_ret (v := .tuple #[.agg #[.int .i64 0, .slice none 0 0, .slice none 0 0], .int .i64 114]) (by simp [results, Try.results26, go_sem, j0, j1, j2]) rfl ⟨none, 0, none, 0, rfl, FF.out.2.1, FF.out.2.2.1, FF.out.2.2.2⟩
      · obtain rfl : n = x0 := by omega
        have hG2 := HG.out
        unfold peerOf at hG2
        rw [HGN.out] at hG2
        dsimp only at hG2
        have HG2 := Lib.hid hG2
        have NB : Hid (PBox wr X link A2 key.length a2 B ps.length b) := ⟨HL.out.b⟩
        obtain ⟨p0, p1, p2, -, -, -⟩ := NB.out.cells
        have HPs : Hid (Ps wr B b ps) := by
          obtain ⟨B2, b2, e, h⟩ := HL.out.own.ps
          injection e with e1 e2 e3
          subst e1 e3
          exact h
        have P := Lib.hid (refPutPeer_any A2 B a2 b ⟨link, key, ps⟩ wr HSR.out HPs.out)
        clear hG2
        unfold peerV at P
        generalize putPeer ⟨link, key, ps⟩ = pl at *
        obtain ⟨k', v', code⟩ := pl
        dsimp only at P HG2
        have c0 : wr.cell? ⟨w.heap.size, 0, none⟩ = some (.slice A nk c) := HZR.out.cell 0
        go_wp2_with fail
        refine P.out.mono ?_
        rintro e w4 ⟨v1, v2, rfl, o1, o2, hb4⟩
        obtain ⟨B1, d1, rfl, q1⟩ := o1.bs
        obtain ⟨B2', d2, rfl, q2⟩ := o2.bs
        have hb5 := below_alloc hb4 (.cells #[.slice B1 k'.length d1, .slice B2' v'.length d2] 29)
        have hb6 := below_alloc (Below.refl w4.heap.size w4) (.cells #[.slice B1 k'.length d1, .slice B2' v'.length d2] 29)
        have h8 := HZR.out.step hb5
        have y0 := (h8.cell 0).trans (b := some (Value.slice A nk c)) rfl
        have y1 := (h8.cell 1).trans (b := some (Value.slice (some ⟨bb, bo, none⟩) nv d)) rfl
        have S := sameRow B1 B2' A (some ⟨bb, bo, none⟩) d1 d2 c d k' v' k v _ (q1.below hb6) (q2.below hb6) (h8.bs HA.out) (h8.bs HB.out)
        rw [HNK.out, HNV.out] at S
        have C8 := Lib.hid h8
        have N8 := Lib.hid (NB.out.below hb5)
        have S8 := Lib.hid (HSR.out.below hb5)
        have P8 := Lib.hid (HPs.out.below hb5)
        have SS := Lib.hid S
        clear o1 o2 hb4 q1 q2 hb5 hb6 h8 S
        generalize hsm : (decide (k' = k) && decide (v' = v)) = sm at *
        go_wp2_with fail
        refine SS.out.mono ?_
        rintro e w6 ⟨rfl, hb7⟩
        have h9 := C8.out.step hb7
        have N9 := Lib.hid (N8.out.below hb7)
        have S9 := Lib.hid (S8.out.below hb7)
        have P9 := Lib.hid (P8.out.below hb7)
        obtain ⟨p0, p1, p2, -, -, -⟩ := N9.out.cells
        obtain ⟨r0, r1, r2, z0, z1, z2⟩ := h9.r.cells
        have C9 := Lib.hid h9
        clear hb7 h9 SS y0 y1
        by_cases hgood : code = 0 ∧ k' = k ∧ v' = v
        · have hG := HG2.out
          rw [if_pos hgood] at hG
          subst hG
          have hsm1 : sm = true := by rw [← hsm]; simp [hgood.2.1, hgood.2.2]
          obtain ⟨rfl, _, _⟩ := hgood
          subst hsm1
          have FF := Lib.hid (C9.out.fin ⟨link, key, ps⟩ S9.out P9.out)
          have JJ := Lib.hid FF.out.1.cells
          unfold fill3 at JJ
          dsimp only at JJ
          clear hsm HG HG2
          go_wp2_with fail
          obtain ⟨j0, j1, j2, -, -, -⟩ := JJ.out
          exact bodyPost_ret (v := .tuple #[.agg #[.int .i64 (link : Int), .slice A2 key.length a2, .slice B ps.length b], .int .i64 0]) (by simp [results, Try.results26, go_sem, j0, j1, j2]) rfl ⟨A2, a2, B, b, rfl, FF.out.2.1, FF.out.2.2.1, FF.out.2.2.2⟩
        · have hG := HG2.out
          rw [if_neg hgood] at hG
          subst hG
          have hcs : (code != 0) = true ∨ ((code != 0) = false ∧ sm = false) := by
            by_cases h1 : code = 0
            · refine .inr ⟨by simp [h1], ?_⟩
              rw [← hsm, Bool.and_eq_false_iff]
              by_cases h : k' = k
              · exact .inr (decide_eq_false (fun h' => hgood ⟨h1, h, h'⟩))
              · exact .inl (decide_eq_false h)
            · exact .inl (by simp [h1])
          clear hsm HG HG2 hgood
          have FF := Lib.hid (C9.out.fin zeroPeer (A2 := none) (a2 := 0) (B2 := none) (b2 := 0) (Bs.nil _ _ _) (Ps.nil _))
          have JJ := Lib.hid FF.out.1.cells
          unfold fill3 zeroPeer at JJ
          dsimp only [List.length_nil] at JJ
          rcases hcs with h1 | ⟨h1, rfl⟩
          all_goals
            go_wp2_with fail
            obtain ⟨j0, j1, j2, -, -, -⟩ := JJ.out
            exact bodyPost_ret (v := .tuple #[.agg #[.int .i64 0, .slice none 0 0, .slice none 0 0], .int .i64 114]) (by simp [results, Try.results26, go_sem, j0, j1, j2]) rfl ⟨none, 0, none, 0, rfl, FF.out.2.1, FF.out.2.2.1, FF.out.2.2.2⟩
theorem refGetPeer_any (A B : Option Addr) (c d : Nat) (k v : List UInt8) (w : World) (ha : Bs w A c k) (hb : Bs w B d v) :
    Calls Try.prog 26 #[.agg #[.slice A k.length c, .slice B v.length d]] w (GotP w (peerGet k v)) := by
  by_cases h : k.length = 5 ∧ 33 ≤ v.length
  · exact refGetPeer_len A B c d k v w ha hb h.1 h.2
  · have h2 : k.length ≠ 5 ∨ v.length < 33 := by omega
    rw [peerGet_bad h2]
    exact refGetPeer_bad A B c d k v w ha hb h2
end Go.Proofs.Ytgbjhlkjceonpaa.Peer
/- P15.3, plain: a peer's row is read back; what is read is put as the row. -/
namespace Go.Proofs.Ytgbjhlkjceonpaa.Peer
open Go.RowKit Go.Proofs.Ytgbjhlkjceonpaa.K Go.Proofs.Ytgbjhlkjceonpaa.Help Go.Proofs.Ytgbjhlkjceonpaa.Pfx
set_option linter.unusedVariables false

theorem pfxGet_put (x : PfxI) (hv : pvI x = true) (h1 : x.2.1 < 18446744073709551616) (h2 : x.2.2.1 < 18446744073709551616) (rest : List UInt8) :
    ∃ d, pfxGet (pfI x ++ rest) = (d, (pfI x).length, 0) ∧ toI d = x := by
  obtain ⟨fam, hi, lo, bits⟩ := x
  unfold pvI at hv
  dsimp only at hv h1 h2
  have hs := pvB_spec hv
  obtain ⟨ha, hb0, hb1, hf⟩ := hs
  have hp : pfI (fam, hi, lo, bits) = [UInt8.ofNat fam.toNat, UInt8.ofNat bits.toNat] ++ paBytes fam hi lo := by
    unfold pfI pfBytes; rw [if_pos hv]
  rw [hp]
  have hb2 : (UInt8.ofNat bits.toNat).toNat = bits.toNat := by simp; omega
  have hbb : ((bits.toNat : Nat) : Int) = bits := by omega
  rcases hf with rfl | rfl
  · have h4 : hi = 0 ∧ lo < 4294967296 := by
      rcases of_decide_eq_true ha with h | ⟨_, h, h'⟩
      · omega
      · exact ⟨h, h'⟩
    obtain ⟨rfl, hlo⟩ := h4
    have e : [UInt8.ofNat (4 : Int).toNat, UInt8.ofNat bits.toNat] ++ paBytes 4 0 lo ++ rest = UInt8.ofNat 4 :: UInt8.ofNat bits.toNat :: (be 4 lo ++ rest) := by simp [paBytes]
    have hl : ([UInt8.ofNat (4 : Int).toNat, UInt8.ofNat bits.toNat] ++ paBytes 4 0 lo).length = 6 := by simp [paBytes, be_len]
    rw [e, hl]
    have f0 : ((UInt8.ofNat 4 :: UInt8.ofNat bits.toNat :: (be 4 lo ++ rest)).getD 0 0).toNat = 4 := by simp
    have f1 : ((UInt8.ofNat 4 :: UInt8.ofNat bits.toNat :: (be 4 lo ++ rest)).getD 1 0).toNat = bits.toNat := by simpa using hb2
    have f2 : ((UInt8.ofNat 4 :: UInt8.ofNat bits.toNat :: (be 4 lo ++ rest)).drop 2).take 4 = be 4 lo := by
      simp only [List.drop_succ_cons, List.drop_zero]
      exact List.take_left' (be_len _ _)
    have f3 : (UInt8.ofNat 4 :: UInt8.ofNat bits.toNat :: (be 4 lo ++ rest)).length = 6 + rest.length := by simp [be_len]; omega
    have f4 : pw ((4 : Nat) : Int) / 8 = 4 := rfl
    unfold pfxGet
    rw [f0, f1, f3, f4, f2, val_be, Nat.mod_eq_of_lt (show lo < 256 ^ 4 by simpa using hlo)]
    rw [if_neg (by omega), if_neg (by omega), show lo / 18446744073709551616 = 0 by omega, show lo % 18446744073709551616 = lo by omega, hbb]
    have hv2 : pvB ((4 : Nat) : Int) 0 lo bits = true := hv
    rw [if_pos hv2]
    exact ⟨_, rfl, by simp [toI, hbb]⟩
  · have e : [UInt8.ofNat (6 : Int).toNat, UInt8.ofNat bits.toNat] ++ paBytes 6 hi lo ++ rest = UInt8.ofNat 6 :: UInt8.ofNat bits.toNat :: ((be 8 hi ++ be 8 lo) ++ rest) := by simp [paBytes]
    have hl : ([UInt8.ofNat (6 : Int).toNat, UInt8.ofNat bits.toNat] ++ paBytes 6 hi lo).length = 18 := by simp [paBytes, be_len]
    rw [e, hl]
    have f0 : ((UInt8.ofNat 6 :: UInt8.ofNat bits.toNat :: ((be 8 hi ++ be 8 lo) ++ rest)).getD 0 0).toNat = 6 := by simp
    have f1 : ((UInt8.ofNat 6 :: UInt8.ofNat bits.toNat :: ((be 8 hi ++ be 8 lo) ++ rest)).getD 1 0).toNat = bits.toNat := by simpa using hb2
    have f2 : ((UInt8.ofNat 6 :: UInt8.ofNat bits.toNat :: ((be 8 hi ++ be 8 lo) ++ rest)).drop 2).take 16 = be 8 hi ++ be 8 lo := by
      simp only [List.drop_succ_cons, List.drop_zero]
      exact List.take_left' (by simp [be_len])
    have f3 : (UInt8.ofNat 6 :: UInt8.ofNat bits.toNat :: ((be 8 hi ++ be 8 lo) ++ rest)).length = 18 + rest.length := by simp [be_len]; omega
    have f4 : pw ((6 : Nat) : Int) / 8 = 16 := rfl
    have f5 : val (be 8 hi ++ be 8 lo) = hi * 18446744073709551616 + lo := by
      rw [val_app2, val_be, val_be, be_len, show (256 : Nat) ^ 8 = 18446744073709551616 from rfl, Nat.mod_eq_of_lt h1, Nat.mod_eq_of_lt h2]
    unfold pfxGet
    rw [f0, f1, f3, f4, f2, f5]
    rw [if_neg (by omega), if_neg (by omega), show (hi * 18446744073709551616 + lo) / 18446744073709551616 = hi by omega, show (hi * 18446744073709551616 + lo) % 18446744073709551616 = lo by omega, hbb]
    have hv2 : pvB ((6 : Nat) : Int) hi lo bits = true := hv
    rw [if_pos hv2]
    exact ⟨_, rfl, by simp [toI, hbb]⟩
theorem getN_flat (ps : List PfxI) (rest : List UInt8) (h : ∀ x, x ∈ ps → pvI x = true ∧ x.2.1 < 18446744073709551616 ∧ x.2.2.1 < 18446744073709551616) :
    ∀ n, n ≤ ps.length → getN n (ps.flatMap pfI ++ rest) = some (ps.take n, (ps.drop n).flatMap pfI ++ rest) := by
  intro n
  induction n with
  | zero => intro _; simp [getN]
  | succ n ih =>
    intro hn
    have hx : ps.drop n = ps[n] :: ps.drop (n + 1) := List.drop_eq_getElem_cons (by omega)
    have hm := h ps[n] (List.getElem_mem (by omega))
    obtain ⟨d, hd, hi⟩ := pfxGet_put ps[n] hm.1 hm.2.1 hm.2.2 ((ps.drop (n + 1)).flatMap pfI ++ rest)
    have hg : pfxGet ((ps.drop n).flatMap pfI ++ rest) = (d, (pfI ps[n]).length, 0) := by
      rw [hx, List.flatMap_cons, List.append_assoc]; exact hd
    rw [getN_step (ih (by omega)) hg, hi, hx, List.flatMap_cons, List.append_assoc, List.drop_left, List.take_succ_eq_append_getElem (by omega)]
theorem okAt_pv {l : List PfxI} (h : okTo l l.length) : ∀ x, x ∈ l → pvI x = true := by
  intro x hx
  obtain ⟨i, hi, rfl⟩ := List.mem_iff_getElem.1 hx
  have := h i hi
  unfold okAt at this
  rw [List.getD_eq_getElem?_getD, List.getElem?_eq_getElem hi] at this
  simp only [Bool.and_eq_true] at this
  exact this.1
/-- P15.3 of peers -/
theorem peerGet_put {d : PeerD} (hb : ∀ x, x ∈ d.ps → x.2.1 < 18446744073709551616 ∧ x.2.2.1 < 18446744073709551616) (h : peerOk d) : peerGet (putPeer d).1 (putPeer d).2.1 = (d, 0) := by
  have hp := putPeer_ok h
  obtain ⟨⟨h1, h2, h3, h4⟩, hto⟩ := h
  have hr : peerRd (putPeer d).1 (putPeer d).2.1 = d := by
    rw [hp]
    dsimp only
    have hb1 : be 1 d.ps.length = [UInt8.ofNat d.ps.length] := by simp [be]
    rw [peerRd_len (by simp [be_len]) (by simp [be_len]; omega)]
    have c1 : cutN ([0x50] ++ be 4 d.link.toNat) 1 4 = be 4 d.link.toNat := by
      have := cut_mid [0x50] (be 4 d.link.toNat) [] (p := 1) (n := 4) rfl (be_len _ _)
      rwa [List.append_nil] at this
    have c2 : (d.key ++ be 1 d.ps.length ++ d.ps.flatMap pfI).take 32 = d.key := by
      rw [List.append_assoc]; exact List.take_left' h3
    have c3 : ((d.key ++ be 1 d.ps.length ++ d.ps.flatMap pfI).getD 32 0).toNat = d.ps.length := by
      rw [hb1, List.append_assoc, List.getD_eq_getElem?_getD, List.getElem?_append_right (by omega), h3]
      simp
      omega
    have c4 : (d.key ++ be 1 d.ps.length ++ d.ps.flatMap pfI).drop 33 = d.ps.flatMap pfI := List.drop_left' (by simp [be_len]; omega)
    rw [c1, c2, c3, c4, val_be, Nat.mod_eq_of_lt (by simp; omega)]
    unfold peerOf
    have hg := getN_flat d.ps [] (fun x hx => ⟨okAt_pv hto x hx, hb x hx⟩) d.ps.length (Nat.le_refl _)
    rw [List.append_nil] at hg
    rw [hg]
    simp only [List.take_length]
    obtain ⟨link, key, ps⟩ := d
    dsimp only at *
    rw [show ((link.toNat : Nat) : Int) = link by omega]
  unfold peerGet
  rw [hr]
  exact if_pos ⟨by rw [hp], rfl, rfl⟩
theorem peerGet_back {k v : List UInt8} {x : PeerD} (h : peerGet k v = (x, 0)) : putPeer x = (k, v, 0) := by
  unfold peerGet at h
  split at h
  · rename_i hc
    simp only [Prod.mk.injEq, and_true] at h
    rw [← h]
    exact Prod.ext hc.2.1 (Prod.ext hc.2.2 hc.1)
  · simp at h
theorem laneGet_back {k v : List UInt8} {x : LaneD} (h : laneGet k v = (x, 0)) : putLane x = (k, v, 0) := by
  unfold laneGet at h
  split at h
  · rename_i hc
    simp only [Prod.mk.injEq, and_true] at h
    rw [← h]
    exact Prod.ext hc.2.1 (Prod.ext hc.2.2 hc.1)
  · simp at h
end Go.Proofs.Ytgbjhlkjceonpaa.Peer
/- The walk of RowsLanes. -/
namespace Go.Proofs.Ytgbjhlkjceonpaa.rowsLanes
open Go.RowKit Go.Proofs.Ytgbjhlkjceonpaa.K Go.Proofs.Ytgbjhlkjceonpaa.Help
set_option linter.unusedVariables false

/-- the two boxes of the arguments -/
structure TwoB (t1 t2 : TypeId) (w w' : World) (x y : Array Value) : Prop where
  a : w'.heap[w.heap.size]? = some (.cells x t1 (0, 0))
  b : w'.heap[w.heap.size + 1]? = some (.cells y t2 (0, 0))
  below : Below w.heap.size w w'
theorem TwoB.start (t1 t2 : TypeId) (w : World) (x y : Array Value) : TwoB t1 t2 w ((w.alloc (.cells x t1)).alloc (.cells y t2)) x y :=
  ⟨blk_alloc (blk_new _ _) _, by have := blk_new (w.alloc (.cells x t1)) (.cells y t2); simpa using this, below_alloc (below_alloc (Below.refl _ _) _) _⟩
theorem TwoB.step {t1 t2 : TypeId} {w w' w2 : World} {x y : Array Value} (h : TwoB t1 t2 w w' x y) (hb : Below w'.heap.size w' w2) : TwoB t1 t2 w w2 x y := ⟨blk_step h.a hb, blk_step h.b hb, below_step h.below hb⟩
theorem TwoB.bs {t1 t2 : TypeId} {w w' : World} {x y : Array Value} (h : TwoB t1 t2 w w' x y) {A : Option Addr} {c : Nat} {l : List UInt8} (hs : Bs w A c l) : Bs w' A c l := hs.below h.below

set_option maxRecDepth 100000 in
set_option maxHeartbeats 1000000 in
theorem walk (A0 : Option Addr) (a0 : Nat) (d : LaneD) (A B : Option Addr) (a b : Nat) (k x : List UInt8) (W : World) (hd : LaneB d) (hl : Bs W A0 a0 d.key) (hk : Bs W A a k) (hx : Bs W B b x) :
    Calls Try.prog 3 #[laneV A0 a0 d, .agg #[.slice A k.length a, .slice B x.length b]] W fun e W' => e = .returned (.bool true) ∧ Below W.heap.size W W' := by
  have C1 := Lib.hid (fun w h => refLane A0 a0 d w h)
  have P1 := Lib.hid (fun A c w h => putLane_any A c d w h hd)
  have P2 := Lib.hid (fun w h => refPutLane_any A0 a0 d w h hd)
  have RW := Lib.hid (fun w h h' => row_any A B a b k x w h h')
  have G1 := Lib.hid (fun A B c d w h h' => getLane_any A B c d k x w h h')
  have G2 := Lib.hid (fun w h h' => refGetLane_any A B a b k x w h h')
  generalize hp : putLane d = p at *
  obtain ⟨k', v', code⟩ := p
  dsimp only at P1 P2
  generalize laneGet k x = got at *
  obtain ⟨gd, gc⟩ := got
  have SL := Lib.hid (fun A B a b w h1 h2 => sameLane_refl A B a b gd w h1 h2)
  unfold laneV at P1 P2 SL C1 ⊢
  obtain ⟨key, side, cur, next, sc, ceil, sec, nano⟩ := d
  dsimp only at P1 P2 hl C1 ⊢
  have H0 := Lib.hid (TwoB.start 27 29 W #[.slice A0 key.length a0, .int .i64 side, .int .i64 cur, .int .i64 next, .int .u64 (sc : Int), .int .u64 (ceil : Int), .int .i64 sec, .int .i64 nano] #[.slice A k.length a, .slice B x.length b])
  have HL := Lib.hid hl
  have HK := Lib.hid hk
  have HX := Lib.hid hx
  clear hp hk hx hl hd
  go_enter Try.func3, Try.ntmps3
  go_wp2_with fail
  refine (C1.out _ (H0.out.bs HL.out)).mono ?_
  rintro e w0 ⟨A9, c9, rfl, s9, hb0⟩
  unfold laneV
  dsimp only at s9 ⊢
  have H00 := Lib.hid (H0.out.step hb0)
  have S9 := Lib.hid s9
  clear hb0 s9
  go_wp2_with fail
  refine (P1.out A9 c9 _ S9.out).mono ?_
  rintro e w1 ⟨v1, v2, rfl, o1, o2, hb1⟩
  obtain ⟨A1, c1, rfl, s1⟩ := o1.bs
  obtain ⟨A2, c2, rfl, s2⟩ := o2.bs
  have hq := below_alloc (Below.refl w1.heap.size w1) (.cells #[.slice A1 k'.length c1, .slice A2 v'.length c2] 29)
  have h1 := (H00.out.step hb1).step hq
  obtain ⟨p0, p1, p2, p3, p4, p5, p6, p7⟩ := lane_cells (A := A0) (n := key.length) (c := a0) (side := side) (cur := cur) (next := next) (sc := sc) (ce := ceil) (se := sec) (na := nano) h1.a
  have H1 := Lib.hid h1
  have L1 := Lib.hid (blk_new w1 (.cells #[.slice A1 k'.length c1, .slice A2 v'.length c2] 29))
  have S1 := Lib.hid (s1.below hq)
  have S2 := Lib.hid (s2.below hq)
  clear o1 o2 hb1 s1 s2 hq h1
  go_wp2_with fail
  refine (P2.out _ (H1.out.bs HL.out)).mono ?_
  rintro e w2 ⟨v1, v2, rfl, o1, o2, hb1⟩
  obtain ⟨A3, c3, rfl, s1⟩ := o1.bs
  obtain ⟨A4, c4, rfl, s2⟩ := o2.bs
  have hq := below_alloc (Below.refl w2.heap.size w2) (.cells #[.slice A3 k'.length c3, .slice A4 v'.length c4] 29)
  have H2 := Lib.hid ((H1.out.step hb1).step hq)
  have l1 := blk_step (blk_step L1.out hb1) hq
  have y0 := (blk_cell l1 0).trans (b := some (Value.slice A1 k'.length c1)) rfl
  have y1 := (blk_cell l1 1).trans (b := some (Value.slice A2 v'.length c2)) rfl
  have SR := sameRow A1 A2 A3 A4 c1 c2 c3 c4 k' v' k' v' _ ((S1.out.below hb1).below hq) ((S2.out.below hb1).below hq) (s1.below hq) (s2.below hq)
  rw [show (decide (k' = k') && decide (v' = v')) = true by simp] at SR
  have SS := Lib.hid SR
  clear o1 o2 hb1 s1 s2 hq l1 SR L1 S1 S2 p0 p1 p2 p3 p4 p5 p6 p7
  go_wp2_with fail
  refine SS.out.mono ?_
  rintro e w3 ⟨rfl, hb1⟩
  have h3 := H2.out.step hb1
  have y0 := (blk_cell h3.b 0).trans (b := some (Value.slice A k.length a)) rfl
  have y1 := (blk_cell h3.b 1).trans (b := some (Value.slice B x.length b)) rfl
  have H3 := Lib.hid h3
  clear hb1 h3 SS
  go_wp2_with fail
  refine (RW.out _ (H3.out.bs HK.out) (H3.out.bs HX.out)).mono ?_
  rintro e w4 ⟨A5, c5, A6, c6, rfl, s1, s2, hb1⟩
  have H4 := Lib.hid (H3.out.step hb1)
  have S5 := Lib.hid s1
  have S6 := Lib.hid s2
  clear s1 s2 hb1
  go_wp2_with fail
  refine (G1.out A5 A6 c5 c6 _ S5.out S6.out).mono ?_
  rintro e w5 ⟨A7, c7, rfl, s7, hb1⟩
  unfold laneV
  dsimp only at s7 ⊢
  have hq := below_alloc (Below.refl w5.heap.size w5) (.cells (lnC A7 gd.key.length c7 gd.side gd.cur gd.next gd.sc gd.ceil gd.sec gd.nano) 27)
  have h5 := (H4.out.step hb1).step hq
  have L5 := Lib.hid (blk_new w5 (.cells (lnC A7 gd.key.length c7 gd.side gd.cur gd.next gd.sc gd.ceil gd.sec gd.nano) 27))
  have S7 := Lib.hid (s7.below hq)
  have y0 := (blk_cell h5.b 0).trans (b := some (Value.slice A k.length a)) rfl
  have y1 := (blk_cell h5.b 1).trans (b := some (Value.slice B x.length b)) rfl
  unfold lnC at y0 y1
  have H5 := Lib.hid h5
  clear hb1 h5 hq s7
  go_wp2_with fail
  refine (G2.out _ (H5.out.bs HK.out) (H5.out.bs HX.out)).mono ?_
  rintro e w6 ⟨A8, c8, rfl, s8, hb1⟩
  unfold laneV
  dsimp only at s8 ⊢
  have hq := below_alloc (Below.refl w6.heap.size w6) (.cells (lnC A8 gd.key.length c8 gd.side gd.cur gd.next gd.sc gd.ceil gd.sec gd.nano) 27)
  have H6 := Lib.hid ((H5.out.step hb1).step hq)
  obtain ⟨p0, p1, p2, p3, p4, p5, p6, p7⟩ := lane_cells (blk_step (blk_step L5.out hb1) hq)
  unfold lnC at p0 p1 p2 p3 p4 p5 p6 p7
  have SM := Lib.hid (SL.out A7 A8 c7 c8 _ ((S7.out.below hb1).below hq) (s8.below hq))
  clear hb1 hq s8
  go_wp2_with fail
  refine SM.out.mono ?_
  rintro e w7 ⟨rfl, hb1⟩
  have H7 := Lib.hid (H6.out.step hb1)
  clear hb1
  go_wp2_with (go_at_call 16; refine (num_any _ _).mono ?_; rintro e w' ⟨rfl, rfl⟩)
  refine (first_any _).mono ?_
  rintro e w8 ⟨rfl, hb1⟩
  have H8 := Lib.hid (H7.out.step hb1)
  clear hb1
  go_wp2_with fail
  go_ret
  exact ⟨rfl, H8.out.below⟩
end Go.Proofs.Ytgbjhlkjceonpaa.rowsLanes
/- The walk of RowsBoots. -/
namespace Go.Proofs.Ytgbjhlkjceonpaa.rowsBoots
open Go.RowKit Go.Proofs.Ytgbjhlkjceonpaa.K Go.Proofs.Ytgbjhlkjceonpaa.Help
set_option linter.unusedVariables false

set_option maxRecDepth 100000 in
set_option maxHeartbeats 1000000 in
theorem walk (n : Int) (h1 : -9223372036854775808 ≤ n) (h2 : n ≤ 9223372036854775807) (A B : Option Addr) (a b : Nat) (k x : List UInt8) (W : World) (hk : Bs W A a k) (hx : Bs W B b x) :
    Calls Try.prog 4 #[.int .i64 n, .agg #[.slice A k.length a, .slice B x.length b]] W fun e W' => e = .returned (.bool true) ∧ Below W.heap.size W W' := by
  have P1 := Lib.hid (fun w => putBoots_any n w h2)
  have P2 := Lib.hid (fun w => refPutBoots_any n w h2)
  have RW := Lib.hid (fun w h h' => row_any A B a b k x w h h')
  have G1 := Lib.hid (fun A B c d w h h' => getBoots_any A B c d k x w h h')
  have G2 := Lib.hid (fun w h h' => refGetBoots_any A B a b k x w h h')
  rw [takes_rd] at G1
  obtain ⟨u, v, huv⟩ := readAs_cases (putBoots (Help.asInt (rdAt x 0 8))) k x (Help.asInt (rdAt x 0 8)) 0
  rw [huv] at G1 G2
  clear huv
  generalize hp : putBoots n = p at *
  obtain ⟨k', v', code⟩ := p
  dsimp only at P1 P2
  have H0 := Lib.hid (Box.start 29 W #[.slice A k.length a, .slice B x.length b])
  have HK := Lib.hid hk
  have HX := Lib.hid hx
  clear hp hk hx
  go_enter Try.func4, Try.ntmps4
  go_wp2_with fail
  refine (P1.out _).mono ?_
  rintro e w1 ⟨v1, v2, rfl, o1, o2, hb1⟩
  obtain ⟨A1, c1, rfl, s1⟩ := o1.bs
  obtain ⟨A2, c2, rfl, s2⟩ := o2.bs
  have hq := below_alloc (Below.refl w1.heap.size w1) (.cells #[.slice A1 k'.length c1, .slice A2 v'.length c2] 29)
  have H1 := Lib.hid ((H0.out.step hb1).step hq)
  have L1 := Lib.hid (blk_new w1 (.cells #[.slice A1 k'.length c1, .slice A2 v'.length c2] 29))
  have S1 := Lib.hid (s1.below hq)
  have S2 := Lib.hid (s2.below hq)
  clear o1 o2 hb1 s1 s2 hq
  go_wp2_with fail
  refine (P2.out _).mono ?_
  rintro e w2 ⟨v1, v2, rfl, o1, o2, hb1⟩
  obtain ⟨A3, c3, rfl, s1⟩ := o1.bs
  obtain ⟨A4, c4, rfl, s2⟩ := o2.bs
  have hq := below_alloc (Below.refl w2.heap.size w2) (.cells #[.slice A3 k'.length c3, .slice A4 v'.length c4] 29)
  have H2 := Lib.hid ((H1.out.step hb1).step hq)
  have l1 := blk_step (blk_step L1.out hb1) hq
  have y0 := (blk_cell l1 0).trans (b := some (Value.slice A1 k'.length c1)) rfl
  have y1 := (blk_cell l1 1).trans (b := some (Value.slice A2 v'.length c2)) rfl
  have SR := sameRow A1 A2 A3 A4 c1 c2 c3 c4 k' v' k' v' _ ((S1.out.below hb1).below hq) ((S2.out.below hb1).below hq) (s1.below hq) (s2.below hq)
  rw [show (decide (k' = k') && decide (v' = v')) = true by simp] at SR
  have SS := Lib.hid SR
  clear o1 o2 hb1 s1 s2 hq l1 SR L1 S1 S2
  go_wp2_with fail
  refine SS.out.mono ?_
  rintro e w3 ⟨rfl, hb1⟩
  have h3 := H2.out.step hb1
  have y0 : w3.cell? ⟨W.heap.size, 0, none⟩ = some (.slice A k.length a) := h3.cell 0
  have y1 : w3.cell? ⟨W.heap.size, 1, none⟩ = some (.slice B x.length b) := h3.cell 1
  have H3 := Lib.hid h3
  clear hb1 h3 SS
  go_wp2_with fail
  refine (RW.out _ (H3.out.bs HK.out) (H3.out.bs HX.out)).mono ?_
  rintro e w4 ⟨A5, c5, A6, c6, rfl, s1, s2, hb1⟩
  have H4 := Lib.hid (H3.out.step hb1)
  have S5 := Lib.hid s1
  have S6 := Lib.hid s2
  clear s1 s2 hb1
  go_wp2_with fail
  refine (G1.out A5 A6 c5 c6 _ S5.out S6.out).mono ?_
  rintro e w5 ⟨rfl, hb1⟩
  have h5 := H4.out.step hb1
  have y0 : w5.cell? ⟨W.heap.size, 0, none⟩ = some (.slice A k.length a) := h5.cell 0
  have y1 : w5.cell? ⟨W.heap.size, 1, none⟩ = some (.slice B x.length b) := h5.cell 1
  have H5 := Lib.hid h5
  clear hb1 h5
  go_wp2_with fail
  refine (G2.out _ (H5.out.bs HK.out) (H5.out.bs HX.out)).mono ?_
  rintro e w6 ⟨rfl, hb1⟩
  have H6 := Lib.hid (H5.out.step hb1)
  clear hb1
  go_wp2_with (go_at_call 16; refine (num_any _ _).mono ?_; rintro e w' ⟨rfl, rfl⟩)
  refine (first_any _).mono ?_
  rintro e w7 ⟨rfl, hb1⟩
  have H7 := Lib.hid (H6.out.step hb1)
  clear hb1
  go_wp2_with fail
  go_ret
  exact ⟨rfl, H7.out.below⟩
end Go.Proofs.Ytgbjhlkjceonpaa.rowsBoots
/- The walk of again: what a row is read as is put as that row. -/
namespace Go.Proofs.Ytgbjhlkjceonpaa.rowsBack
open Go.RowKit Go.Proofs.Ytgbjhlkjceonpaa.K Go.Proofs.Ytgbjhlkjceonpaa.Help Go.Proofs.Ytgbjhlkjceonpaa.Pfx Go.Proofs.Ytgbjhlkjceonpaa.Peer Go.Proofs.Ytgbjhlkjceonpaa.rowsLanes
set_option linter.unusedVariables false

theorem readAs_back {k v : List UInt8} {n : Int} : (readAs (putBoots n) k v (.int .i64 n) (.int .i64 0) = .tuple #[.int .i64 n, .int .i64 0] ∧ putBoots n = (k, v, 0)) ∨ readAs (putBoots n) k v (.int .i64 n) (.int .i64 0) = .tuple #[.int .i64 0, .int .i64 114] := by
  unfold readAs
  by_cases h : (putBoots n).2.2 = 0 ∧ (putBoots n).1 = k ∧ (putBoots n).2.1 = v
  · rw [if_pos h]; exact .inl ⟨rfl, Prod.ext h.2.1 (Prod.ext h.2.2 h.1)⟩
  · rw [if_neg h]; exact .inr rfl
set_option maxRecDepth 100000 in
set_option maxHeartbeats 2000000 in
theorem again_any (A B : Option Addr) (a b : Nat) (k x : List UInt8) (w : World) (hk : Bs w A a k) (hx : Bs w B b x) :
    Calls Try.prog 28 #[.agg #[.slice A k.length a, .slice B x.length b]] w (Pure w (.bool true)) := by
  have H0 := Lib.hid (Box.start 29 w #[.slice A k.length a, .slice B x.length b])
  have GP := Lib.hid (fun w h h' => getPeer_any A B a b k x w h h')
  have GL := Lib.hid (fun w h h' => getLane_any A B a b k x w h h')
  have GB := Lib.hid (fun w h h' => getBoots_any A B a b k x w h h')
  have HK := Lib.hid hk
  have HX := Lib.hid hx
  have BP := Lib.hid (fun y h => peerGet_back (k := k) (v := x) (x := y) h)
  have BL := Lib.hid (fun y h => laneGet_back (k := k) (v := x) (x := y) h)
  have SR := Lib.hid (fun A1 B1 a1 b1 w h1 h2 h3 h4 => sameRow A1 B1 A B a1 b1 a b k x k x w h1 h2 h3 h4)
  rw [show (decide (k = k) && decide (x = x)) = true by simp] at SR
  have LB : Hid (LaneB (laneGet k x).1) := by
    unfold laneGet
    split
    · exact laneRd_b k x
    · exact ⟨by simp [zeroLane], by simp [zeroLane], by simp [zeroLane]⟩
  clear hk hx
  generalize peerGet k x = pg at *
  obtain ⟨pd, pc⟩ := pg
  generalize laneGet k x = lg at *
  obtain ⟨ld, lc⟩ := lg
  have hle := Help.asInt_le (val (takes x 0 8 0).1)
  generalize Help.asInt (val (takes x 0 8 0).1) = n at *
  dsimp only at LB
  go_enter Try.func28, Try.ntmps28
  go_wp2_with fail
  refine (GP.out _ (H0.out.bs HK.out) (H0.out.bs HX.out)).mono ?_
  rintro e w1 ⟨A1, a1, B1, b1, rfl, s1, p1, hb1⟩
  unfold peerV
  dsimp only at s1 p1 ⊢
  have hq := below_alloc (Below.refl w1.heap.size w1) (.cells (peC pd.link A1 pd.key.length a1 (.slice B1 pd.ps.length b1)) 55)
  have H1 := Lib.hid ((H0.out.step hb1).step hq)
  have S1 := Lib.hid (s1.below hq)
  have P1 := Lib.hid (p1.below hq)
  have X1 : Hid (PBox (w1.alloc (.cells (peC pd.link A1 pd.key.length a1 (.slice B1 pd.ps.length b1)) 55)) w1.heap.size pd.link A1 pd.key.length a1 B1 pd.ps.length b1) := ⟨blk_new w1 _⟩
  clear s1 p1 hb1 hq
  go_upto_if 26 with (go_at_call 16; refine (num_any _ _).mono ?_; rintro e w' ⟨rfl, rfl⟩)
  go_cut [3] (fun s wx => s = .bool true ∧ Box 29 w wx #[.slice A k.length a, .slice B x.length b])
  case first =>
    by_cases hc : pc = 0
    · subst hc
      have HPP := Lib.hid (BP.out pd rfl)
      have PP := Lib.hid (putPeer_any A1 B1 a1 b1 pd _ S1.out P1.out)
      rw [HPP.out] at PP
      unfold peerV at PP
      obtain ⟨p0, p1, p2, -, -, -⟩ := X1.out.cells
      dsimp only at PP
      go_wp2_with fail
      refine PP.out.mono ?_
      rintro e w2 ⟨v1, v2, rfl, o1, o2, hb2⟩
      obtain ⟨A2, c2, rfl, s2⟩ := o1.bs
      obtain ⟨A3, c3, rfl, s3⟩ := o2.bs
      have hq := below_alloc (Below.refl w2.heap.size w2) (.cells #[.slice A2 k.length c2, .slice A3 x.length c3] 29)
      have h2 := (H1.out.step hb2).step hq
      have y0 := (h2.cell 0).trans (b := some (Value.slice A k.length a)) rfl
      have y1 := (h2.cell 1).trans (b := some (Value.slice B x.length b)) rfl
      have SS := Lib.hid (SR.out A2 A3 c2 c3 _ (s2.below hq) (s3.below hq) (h2.bs HK.out) (h2.bs HX.out))
      have H2 := Lib.hid h2
      clear o1 o2 hb2 s2 s3 hq h2
      go_wp2_with fail
      refine SS.out.mono ?_
      rintro e w3 ⟨rfl, hb3⟩
      have H3 := Lib.hid (H2.out.step hb3)
      clear hb3
      go_wp2_with (go_at_call 16; refine (num_any _ _).mono ?_; rintro e w' ⟨rfl, rfl⟩)
      go_meet
      exact ⟨rfl, H3.out⟩
    · have hcn : (pc == 0) = false := by simpa using hc
      go_wp2_with fail
      go_meet
      exact ⟨rfl, H1.out⟩
  case rest =>
    obtain ⟨rfl, hw⟩ := hcut
    have y0 := (hw.cell 0).trans (b := some (Value.slice A k.length a)) rfl
    have y1 := (hw.cell 1).trans (b := some (Value.slice B x.length b)) rfl
    have HW := Lib.hid hw
    clear hw
    go_wp2_with fail
    refine (GL.out _ (HW.out.bs HK.out) (HW.out.bs HX.out)).mono ?_
    rintro e v1 ⟨A4, a4, rfl, s4, hb4⟩
    unfold laneV
    dsimp only at s4 ⊢
    have hq := below_alloc (Below.refl v1.heap.size v1) (.cells (lnC A4 ld.key.length a4 ld.side ld.cur ld.next ld.sc ld.ceil ld.sec ld.nano) 27)
    have V1 := Lib.hid ((HW.out.step hb4).step hq)
    have S4 := Lib.hid (s4.below hq)
    have X4 := Lib.hid (blk_new v1 (.cells (lnC A4 ld.key.length a4 ld.side ld.cur ld.next ld.sc ld.ceil ld.sec ld.nano) 27))
    clear s4 hb4 hq y0 y1
    go_upto_if 51 with (go_at_call 16; refine (num_any _ _).mono ?_; rintro e w' ⟨rfl, rfl⟩)
    go_cut [3] (fun s wx => s = .bool true ∧ Box 29 w wx #[.slice A k.length a, .slice B x.length b])
    case first =>
      by_cases hc : lc = 0
      · subst hc
        have HPP := Lib.hid (BL.out ld rfl)
        have PP := Lib.hid (putLane_any A4 a4 ld _ S4.out LB.out)
        rw [HPP.out] at PP
        unfold laneV at PP
        obtain ⟨p0, p1, p2, p3, p4, p5, p6, p7⟩ := lane_cells X4.out
        unfold lnC at p0 p1 p2 p3 p4 p5 p6 p7 PP
        dsimp only at PP
        go_wp2_with fail
        refine PP.out.mono ?_
        rintro e w2 ⟨v1, v2, rfl, o1, o2, hb2⟩
        obtain ⟨A2, c2, rfl, s2⟩ := o1.bs
        obtain ⟨A3, c3, rfl, s3⟩ := o2.bs
        have hq := below_alloc (Below.refl w2.heap.size w2) (.cells #[.slice A2 k.length c2, .slice A3 x.length c3] 29)
        have h2 := (V1.out.step hb2).step hq
        have y0 := (h2.cell 0).trans (b := some (Value.slice A k.length a)) rfl
        have y1 := (h2.cell 1).trans (b := some (Value.slice B x.length b)) rfl
        have SS := Lib.hid (SR.out A2 A3 c2 c3 _ (s2.below hq) (s3.below hq) (h2.bs HK.out) (h2.bs HX.out))
        have H2 := Lib.hid h2
        clear o1 o2 hb2 s2 s3 hq h2
        go_wp2_with fail
        refine SS.out.mono ?_
        rintro e w3 ⟨rfl, hb3⟩
        have H3 := Lib.hid (H2.out.step hb3)
        clear hb3
        go_wp2_with (go_at_call 16; refine (num_any _ _).mono ?_; rintro e w' ⟨rfl, rfl⟩)
        go_meet
        exact ⟨rfl, H3.out⟩
      · have hcn : (lc == 0) = false := by simpa using hc
        go_wp2_with fail
        go_meet
        exact ⟨rfl, V1.out⟩
    case rest =>
      obtain ⟨rfl, hw⟩ := hcut
      have y0 := (hw.cell 0).trans (b := some (Value.slice A k.length a)) rfl
      have y1 := (hw.cell 1).trans (b := some (Value.slice B x.length b)) rfl
      have HW2 := Lib.hid hw
      clear hw
      have R := Lib.hid (GB.out _ (HW2.out.bs HK.out) (HW2.out.bs HX.out))
      rcases readAs_back (k := k) (v := x) (n := n) with ⟨hr, hp⟩ | hr
      · rw [hr] at R
        have PB := Lib.hid (fun w => putBoots_any n w hle)
        rw [hp] at PB
        have e5 := hle
        clear hr hp
        go_wp2_with fail
        refine R.out.mono ?_
        rintro e w2 ⟨rfl, hb2⟩
        have h2 := HW2.out.step hb2
        have H2 := Lib.hid h2
        clear hb2 h2
        go_wp2_with (go_at_call 16; refine (num_any _ _).mono ?_; rintro e w' ⟨rfl, rfl⟩)
        refine (PB.out _).mono ?_
        rintro e w3 ⟨v1, v2, rfl, o1, o2, hb3⟩
        obtain ⟨A2, c2, rfl, s2⟩ := o1.bs
        obtain ⟨A3, c3, rfl, s3⟩ := o2.bs
        have hq := below_alloc (Below.refl w3.heap.size w3) (.cells #[.slice A2 k.length c2, .slice A3 x.length c3] 29)
        have h2 := (H2.out.step hb3).step hq
        have y0 := (h2.cell 0).trans (b := some (Value.slice A k.length a)) rfl
        have y1 := (h2.cell 1).trans (b := some (Value.slice B x.length b)) rfl
        have SS := Lib.hid (SR.out A2 A3 c2 c3 _ (s2.below hq) (s3.below hq) (h2.bs HK.out) (h2.bs HX.out))
        have H3 := Lib.hid h2
        clear o1 o2 hb3 s2 s3 hq h2
        go_wp2_with fail
        refine SS.out.mono ?_
        rintro e w4 ⟨rfl, hb4⟩
        have H4 := Lib.hid (H3.out.step hb4)
        clear hb4
        go_wp2_with (go_at_call 16; refine (num_any _ _).mono ?_; rintro e w' ⟨rfl, rfl⟩)
        go_ret
        exact ⟨rfl, H4.out.below⟩
      · rw [hr] at R
        clear hr
        go_wp2_with fail
        refine R.out.mono ?_
        rintro e w2 ⟨rfl, hb2⟩
        have H2 := Lib.hid (HW2.out.step hb2)
        clear hb2
        go_wp2_with (go_at_call 16; refine (num_any _ _).mono ?_; rintro e w' ⟨rfl, rfl⟩)
        go_ret
        exact ⟨rfl, H2.out.below⟩
end Go.Proofs.Ytgbjhlkjceonpaa.rowsBack
/- The walk of RowsBack. -/
namespace Go.Proofs.Ytgbjhlkjceonpaa.rowsBack
open Go.RowKit Go.Proofs.Ytgbjhlkjceonpaa.K Go.Proofs.Ytgbjhlkjceonpaa.Help Go.Proofs.Ytgbjhlkjceonpaa.Pfx Go.Proofs.Ytgbjhlkjceonpaa.Peer Go.Proofs.Ytgbjhlkjceonpaa.rowsLanes
set_option linter.unusedVariables false

/-- the three boxes of the arguments -/
structure ThreeB (w w' : World) (x y z : Array Value) : Prop where
  a : w'.heap[w.heap.size]? = some (.cells x 55 (0, 0))
  b : w'.heap[w.heap.size + 1]? = some (.cells y 27 (0, 0))
  c : w'.heap[w.heap.size + 2]? = some (.cells z 29 (0, 0))
  below : Below w.heap.size w w'
theorem ThreeB.start (w : World) (x y z : Array Value) : ThreeB w (((w.alloc (.cells x 55)).alloc (.cells y 27)).alloc (.cells z 29)) x y z :=
  ⟨blk_alloc (blk_alloc (blk_new _ _) _) _, blk_alloc (by have := blk_new (w.alloc (.cells x 55)) (.cells y 27); simpa using this) _,
   by have := blk_new ((w.alloc (.cells x 55)).alloc (.cells y 27)) (.cells z 29); simpa using this, below_alloc (below_alloc (below_alloc (Below.refl _ _) _) _) _⟩
theorem ThreeB.step {w w' w2 : World} {x y z : Array Value} (h : ThreeB w w' x y z) (hb : Below w'.heap.size w' w2) : ThreeB w w2 x y z := ⟨blk_step h.a hb, blk_step h.b hb, blk_step h.c hb, below_step h.below hb⟩
theorem ThreeB.bs {w w' : World} {x y z : Array Value} (h : ThreeB w w' x y z) {A : Option Addr} {c : Nat} {l : List UInt8} (hs : Bs w A c l) : Bs w' A c l := hs.below h.below
theorem putPeer_0 {d : PeerD} (h : (putPeer d).2.2 = 0) : peerOk d := by
  by_cases hok : peerOk d
  · exact hok
  · rw [putPeer_bad hok] at h; cases h
theorem putLane_0 {d : LaneD} (h : (putLane d).2.2 = 0) : laneOk d := by
  by_cases hok : laneOk d
  · exact hok
  · rw [putLane_no hok] at h; cases h
theorem boots_back {n : Int} (h : (putBoots n).2.2 = 0) :
    readAs (putBoots (Help.asInt (val (takes (putBoots n).2.1 0 8 0).1))) (putBoots n).1 (putBoots n).2.1 (.int .i64 (Help.asInt (val (takes (putBoots n).2.1 0 8 0).1))) (.int .i64 0) = .tuple #[.int .i64 n, .int .i64 0] := by
  rcases putBoots_cases n with ⟨_, h1⟩ | ⟨_, _, h1⟩ | ⟨m, rfl, hm, h1⟩
  · rw [h1] at h; cases h
  · rw [h1] at h; cases h
  · have ht : takes (be 8 m) 0 8 0 = (be 8 m, true, 8, 0) := by
      rw [takes_ok (by rw [be_len]; omega)]
      have : cutN (be 8 m) 0 8 = be 8 m := by unfold cutN; rw [List.drop_zero]; exact List.take_of_length_le (by rw [be_len]; omega)
      rw [this]
    have ha : Help.asInt (val (takes (putBoots (m : Int)).2.1 0 8 0).1) = (m : Int) := by
      rw [h1]
      dsimp only
      rw [ht]
      dsimp only
      rw [val_be, Nat.mod_eq_of_lt (by omega), asInt_small (by omega)]
    rw [ha]
    unfold readAs
    rw [if_pos ⟨h, rfl, rfl⟩]
set_option maxRecDepth 100000 in
set_option maxHeartbeats 2000000 in
theorem walk0 (A0 : Option Addr) (a0 : Nat) (B0 : Option Addr) (b0 : Nat) (d : PeerD) (A1 : Option Addr) (a1 : Nat) (l : LaneD) (n : Int) (A B : Option Addr) (a b : Nat) (k x : List UInt8) (W : World)
    (hd : LaneB l) (hn : n ≤ 9223372036854775807) (hs0 : Bs W A0 a0 d.key) (hp0 : Ps W B0 b0 d.ps) (hs1 : Bs W A1 a1 l.key) (hk : Bs W A a k) (hx : Bs W B b x) :
    Calls Try.prog 6 #[peerV A0 a0 B0 b0 d, laneV A1 a1 l, .int .i64 n, .agg #[.slice A k.length a, .slice B x.length b]] W fun e W' => e = .returned (.bool true) ∧ Below W.heap.size W W' := by
  have P1 := Lib.hid (fun w h h' => putPeer_any A0 B0 a0 b0 d w h h')
  have P2 := Lib.hid (fun w h => putLane_any A1 a1 l w h hd)
  have P3 := Lib.hid (fun w => putBoots_any n w hn)
  have G1 := Lib.hid (fun A B c c' w h h' => getPeer_any A B c c' (putPeer d).1 (putPeer d).2.1 w h h')
  have G2 := Lib.hid (fun A B c c' w h h' => getLane_any A B c c' (putLane l).1 (putLane l).2.1 w h h')
  have G3 := Lib.hid (fun A B c c' w h h' => getBoots_any A B c c' (putBoots n).1 (putBoots n).2.1 w h h')
  have HB1 : Hid ((putPeer d).2.2 = 0 → peerGet (putPeer d).1 (putPeer d).2.1 = (d, 0)) := fun h => peerGet_put hp0.lt (putPeer_0 h)
  have HB2 : Hid ((putLane l).2.2 = 0 → laneGet (putLane l).1 (putLane l).2.1 = (l, 0)) := fun h => laneGet_put hd (putLane_0 h)
  have HB3 := Lib.hid (fun h => boots_back (n := n) h)
  have HB4 := Lib.hid (readAs_cases (putBoots (Help.asInt (val (takes (putBoots n).2.1 0 8 0).1))) (putBoots n).1 (putBoots n).2.1 (Help.asInt (val (takes (putBoots n).2.1 0 8 0).1)) 0)
  have AG := Lib.hid (fun w h h' => again_any A B a b k x w h h')
  generalize putPeer d = pp at *
  obtain ⟨k1, v1, e1⟩ := pp
  generalize putLane l = pl at *
  obtain ⟨k2, v2, e2⟩ := pl
  generalize putBoots n = pb at *
  obtain ⟨k3, v3, e3⟩ := pb
  dsimp only at P1 P2 P3 G1 G2 G3 HB1 HB2 HB3 HB4
  have SP := Lib.hid (fun C D a c w h1 h2 h3 h4 => samePeer_self A0 B0 C D a0 b0 a c d w h1 h2 h3 h4)
  have SL := Lib.hid (fun C c w h1 h2 => sameLane_refl A1 C a1 c l w h1 h2)
  have HS0 := Lib.hid hs0
  have HP0 := Lib.hid hp0
  have HS1 := Lib.hid hs1
  have HK := Lib.hid hk
  have HX := Lib.hid hx
  clear hs0 hp0 hs1 hk hx
  obtain ⟨link, key, ps⟩ := d
  obtain ⟨lkey, side, cur, next, sc, ceil, sec, nano⟩ := l
  unfold peerV laneV at *
  dsimp only at *
  have H0 := Lib.hid (ThreeB.start W #[.int .i64 link, .slice A0 key.length a0, .slice B0 ps.length b0] #[.slice A1 lkey.length a1, .int .i64 side, .int .i64 cur, .int .i64 next, .int .u64 (sc : Int), .int .u64 (ceil : Int), .int .i64 sec, .int .i64 nano] #[.slice A k.length a, .slice B x.length b])
  generalize hpe : peerGet k1 v1 = pg at *
  obtain ⟨⟨plink, pkey, pps⟩, pc⟩ := pg
  generalize hle : laneGet k2 v2 = lg at *
  obtain ⟨⟨qkey, qside, qcur, qnext, qsc, qceil, qsec, qnano⟩, lc⟩ := lg
  clear hpe hle
  go_enter Try.func6, Try.ntmps6
  go_wp2_with fail
  refine (first_any _).mono ?_
  rintro e w1 ⟨rfl, hb1⟩
  have h1 := H0.out.step hb1
  obtain ⟨p0, p1, p2, -, -, -⟩ := PBox.cells (W := w1) (R := W.heap.size) (link := link) (A := A0) (n := key.length) (c := a0) (B := B0) (m := ps.length) (b := b0) ⟨h1.a⟩
  have H1 := Lib.hid h1
  clear hb1 h1
  by_cases hlong : 60 < ps.length
  · have hlg : (60 : Int) < (ps.length : Int) := by omega
    go_wp2_with fail
    go_ret
    exact ⟨rfl, H1.out.below⟩
  have hlg : (ps.length : Int) ≤ 60 := by omega
  clear hlong
  go_wp2_with fail
  refine (P1.out _ (H1.out.bs HS0.out) (HP0.out.below H1.out.below)).mono ?_
  rintro e w2 ⟨x1, x2, rfl, o1, o2, hb2⟩
  obtain ⟨A2, c2, rfl, s2⟩ := o1.bs
  obtain ⟨A3, c3, rfl, s3⟩ := o2.bs
  have hq := below_alloc (Below.refl w2.heap.size w2) (.cells #[.slice A2 k1.length c2, .slice A3 v1.length c3] 29)
  have H2 := Lib.hid ((H1.out.step hb2).step hq)
  have S2 := Lib.hid (s2.below hq)
  have S3 := Lib.hid (s3.below hq)
  clear o1 o2 hb2 s2 s3 hq
  go_wp2_with fail
  refine (G1.out A2 A3 c2 c3 _ S2.out S3.out).mono ?_
  rintro e w3 ⟨A4, a4, B4, b4, rfl, s4, p4, hb3⟩
  unfold peerV
  dsimp only at s4 p4 ⊢
  have hq := below_alloc (Below.refl w3.heap.size w3) (.cells (peC plink A4 pkey.length a4 (.slice B4 pps.length b4)) 55)
  have H3 := Lib.hid ((H2.out.step hb3).step hq)
  have S4 := Lib.hid (s4.below hq)
  have P4 := Lib.hid (p4.below hq)
  have X4 : Hid (PBox (w3.alloc (.cells (peC plink A4 pkey.length a4 (.slice B4 pps.length b4)) 55)) w3.heap.size plink A4 pkey.length a4 B4 pps.length b4) := ⟨blk_new w3 _⟩
  clear s4 p4 hb3 hq p0 p1 p2
  go_upto_if 43 with (go_at_call 16; refine (num_any _ _).mono ?_; rintro e w' ⟨rfl, rfl⟩)
  go_cut [9] (fun s wx => s = .bool true ∧ ThreeB W wx #[.int .i64 link, .slice A0 key.length a0, .slice B0 ps.length b0] #[.slice A1 lkey.length a1, .int .i64 side, .int .i64 cur, .int .i64 next, .int .u64 (sc : Int), .int .u64 (ceil : Int), .int .i64 sec, .int .i64 nano] #[.slice A k.length a, .slice B x.length b])
  case first =>
    by_cases hc : e1 = 0
    · subst hc
      have hg := HB1.out rfl
      simp only [Prod.mk.injEq, PeerD.mk.injEq] at hg
      obtain ⟨⟨rfl, rfl, rfl⟩, rfl⟩ := hg
      obtain ⟨p0, p1, p2, -, -, -⟩ := PBox.cells (W := _) (R := W.heap.size) (link := plink) (A := A0) (n := pkey.length) (c := a0) (B := B0) (m := pps.length) (b := b0) ⟨H3.out.a⟩
      obtain ⟨q0, q1, q2, -, -, -⟩ := X4.out.cells
      have SS := Lib.hid (SP.out A4 B4 a4 b4 _ (H3.out.bs HS0.out) S4.out (HP0.out.below H3.out.below) P4.out)
      unfold peC at p0 p1 p2 q0 q1 q2 SS
      go_wp2_with fail
      refine SS.out.mono ?_
      rintro e w4 ⟨rfl, hb4⟩
      have H4 := Lib.hid (H3.out.step hb4)
      clear hb4
      go_wp2_with (go_at_call 16; refine (num_any _ _).mono ?_; rintro e w' ⟨rfl, rfl⟩)
      go_meet
      exact ⟨rfl, H4.out⟩
    · have hcn : (e1 == 0) = false := by simpa using hc
      go_wp2_with fail
      go_meet
      exact ⟨rfl, H3.out⟩
  case rest =>
    obtain ⟨rfl, hw⟩ := hcut
    obtain ⟨p0, p1, p2, p3, p4, p5, p6, p7⟩ := lane_cells (A := A1) (n := lkey.length) (c := a1) (side := side) (cur := cur) (next := next) (sc := sc) (ce := ceil) (se := sec) (na := nano) hw.b
    have HW := Lib.hid hw
    clear hw
    go_wp2_with fail
    refine (P2.out _ (HW.out.bs HS1.out)).mono ?_
    rintro e u2 ⟨x1, x2, rfl, o1, o2, hb2⟩
    obtain ⟨A5, c5, rfl, s5⟩ := o1.bs
    obtain ⟨A6, c6, rfl, s6⟩ := o2.bs
    have hq := below_alloc (Below.refl u2.heap.size u2) (.cells #[.slice A5 k2.length c5, .slice A6 v2.length c6] 29)
    have U2 := Lib.hid ((HW.out.step hb2).step hq)
    have S5 := Lib.hid (s5.below hq)
    have S6 := Lib.hid (s6.below hq)
    clear o1 o2 hb2 s5 s6 hq p0 p1 p2 p3 p4 p5 p6 p7
    go_wp2_with fail
    refine (G2.out A5 A6 c5 c6 _ S5.out S6.out).mono ?_
    rintro e u3 ⟨A7, a7, rfl, s7, hb3⟩
    unfold laneV
    dsimp only at s7 ⊢
    have hq := below_alloc (Below.refl u3.heap.size u3) (.cells (lnC A7 qkey.length a7 qside qcur qnext qsc qceil qsec qnano) 27)
    have U3 := Lib.hid ((U2.out.step hb3).step hq)
    have S7 := Lib.hid (s7.below hq)
    have X7 := Lib.hid (blk_new u3 (.cells (lnC A7 qkey.length a7 qside qcur qnext qsc qceil qsec qnano) 27))
    clear s7 hb3 hq
    go_upto_if 68 with (go_at_call 16; refine (num_any _ _).mono ?_; rintro e w' ⟨rfl, rfl⟩)
    go_cut [9] (fun s wx => s = .bool true ∧ ThreeB W wx #[.int .i64 link, .slice A0 key.length a0, .slice B0 ps.length b0] #[.slice A1 lkey.length a1, .int .i64 side, .int .i64 cur, .int .i64 next, .int .u64 (sc : Int), .int .u64 (ceil : Int), .int .i64 sec, .int .i64 nano] #[.slice A k.length a, .slice B x.length b])
    case first =>
      by_cases hc : e2 = 0
      · subst hc
        have hg := HB2.out rfl
        simp only [Prod.mk.injEq, LaneD.mk.injEq] at hg
        obtain ⟨⟨rfl, rfl, rfl, rfl, rfl, rfl, rfl, rfl⟩, rfl⟩ := hg
        obtain ⟨p0, p1, p2, p3, p4, p5, p6, p7⟩ := lane_cells (A := A1) (n := qkey.length) (c := a1) (side := qside) (cur := qcur) (next := qnext) (sc := qsc) (ce := qceil) (se := qsec) (na := qnano) U3.out.b
        obtain ⟨r0, r1, r2, r3, r4, r5, r6, r7⟩ := lane_cells X7.out
        have SS := Lib.hid (SL.out A7 a7 _ (U3.out.bs HS1.out) S7.out)
        unfold lnC at p0 p1 p2 p3 p4 p5 p6 p7 r0 r1 r2 r3 r4 r5 r6 r7 SS
        go_wp2_with fail
        refine SS.out.mono ?_
        rintro e w4 ⟨rfl, hb4⟩
        have H4 := Lib.hid (U3.out.step hb4)
        clear hb4
        go_wp2_with (go_at_call 16; refine (num_any _ _).mono ?_; rintro e w' ⟨rfl, rfl⟩)
        go_meet
        exact ⟨rfl, H4.out⟩
      · have hcn : (e2 == 0) = false := by simpa using hc
        go_wp2_with fail
        go_meet
        exact ⟨rfl, U3.out⟩
    case rest =>
      obtain ⟨rfl, hw⟩ := hcut
      have HW2 := Lib.hid hw
      clear hw
      go_wp2_with fail
      refine (P3.out _).mono ?_
      rintro e u5 ⟨x1, x2, rfl, o1, o2, hb2⟩
      obtain ⟨A8, c8, rfl, s8⟩ := o1.bs
      obtain ⟨A9, c9, rfl, s9⟩ := o2.bs
      have hq := below_alloc (Below.refl u5.heap.size u5) (.cells #[.slice A8 k3.length c8, .slice A9 v3.length c9] 29)
      have U5 := Lib.hid ((HW2.out.step hb2).step hq)
      have S8 := Lib.hid (s8.below hq)
      have S9 := Lib.hid (s9.below hq)
      clear o1 o2 hb2 s8 s9 hq
      obtain ⟨g1, g2, hg⟩ := HB4.out
      have GB := Lib.hid (G3.out A8 A9 c8 c9 _ S8.out S9.out)
      rw [hg] at GB HB3
      have HG := Lib.hid hg
      clear hg
      go_wp2_with fail
      refine GB.out.mono ?_
      rintro e u6 ⟨rfl, hb3⟩
      have U6 := Lib.hid (U5.out.step hb3)
      clear hb3
      go_upto_if 93 with (go_at_call 16; refine (num_any _ _).mono ?_; rintro e w' ⟨rfl, rfl⟩)
      go_cut [9] (fun s wx => s = .bool true ∧ ThreeB W wx #[.int .i64 link, .slice A0 key.length a0, .slice B0 ps.length b0] #[.slice A1 lkey.length a1, .int .i64 side, .int .i64 cur, .int .i64 next, .int .u64 (sc : Int), .int .u64 (ceil : Int), .int .i64 sec, .int .i64 nano] #[.slice A k.length a, .slice B x.length b])
      case first =>
        by_cases hc : e3 = 0
        · subst hc
          have hg := HB3.out rfl
          simp only [Value.tuple.injEq, Array.mk.injEq, List.cons.injEq, Value.int.injEq, true_and, and_true] at hg
          obtain ⟨rfl, rfl⟩ := hg
          go_wp2_with (go_at_call 16; refine (num_any _ _).mono ?_; rintro e w' ⟨rfl, rfl⟩)
          go_meet
          exact ⟨rfl, U6.out⟩
        · have hcn : (e3 == 0) = false := by simpa using hc
          go_wp2_with fail
          go_meet
          exact ⟨rfl, U6.out⟩
      case rest =>
        obtain ⟨rfl, hw⟩ := hcut
        have y0 : wc.cell? ⟨W.heap.size + 1 + 1, 0, none⟩ = some (.slice A k.length a) := (blk_cell hw.c 0).trans rfl
        have y1 : wc.cell? ⟨W.heap.size + 1 + 1, 1, none⟩ = some (.slice B x.length b) := (blk_cell hw.c 1).trans rfl
        have HW3 := Lib.hid hw
        clear hw
        go_wp2_with fail
        refine (AG.out _ (HW3.out.bs HK.out) (HW3.out.bs HX.out)).mono ?_
        rintro e w9 ⟨rfl, hb9⟩
        have H9 := Lib.hid (HW3.out.step hb9)
        clear hb9
        go_wp2_with fail
        go_ret
        exact ⟨rfl, H9.out.below⟩
theorem walk (A0 : Option Addr) (a0 : Nat) (B0 : Option Addr) (b0 : Nat) (d : PeerD) (A1 : Option Addr) (a1 : Nat) (l : LaneD) (n : Int) (_ : -9223372036854775808 ≤ n) (hn : n ≤ 9223372036854775807) (A B : Option Addr) (a b : Nat) (k x : List UInt8) (W : World)
    (hs0 : Bs W A0 a0 d.key) (hp0 : Ps W B0 b0 d.ps) (hd : LaneB l) (hs1 : Bs W A1 a1 l.key) (hk : Bs W A a k) (hx : Bs W B b x) :
    Calls Try.prog 6 #[peerV A0 a0 B0 b0 d, laneV A1 a1 l, .int .i64 n, .agg #[.slice A k.length a, .slice B x.length b]] W fun e W' => e = .returned (.bool true) ∧ Below W.heap.size W W' :=
  walk0 A0 a0 B0 b0 d A1 a1 l n A B a b k x W hd hn hs0 hp0 hs1 hk hx
end Go.Proofs.Ytgbjhlkjceonpaa.rowsBack
