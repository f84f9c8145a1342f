/- Contract of the laws' fit. Conditions: numbers within 64 bits; fewer than 2^47 bytes a record. -/
import Derived.Test.YtpciggnanlflkaaGreatDoorZc
namespace Go.Proofs.YtpciggnanlflkaaGreatDoor.Ad
set_option linter.unusedVariables false
set_option linter.unusedSimpArgs false
open Go.RowKit Go.Maps W
/-- A store into a block of one's own. -/
theorem set_blk {wr V V' : World} {G : Nat} {t : TypeId} {cs : Array Value} {j : Nat} {x : Value} (hb : Hid (Blk V G t cs)) (hw : Hid (Below wr.heap.size wr V)) (hG : wr.heap.size ≤ G) (h : V' = V.setCell ⟨G, j, none⟩ x) : Hid (Blk V' G t (cs.setIfInBounds j x)) ∧ Hid (Below wr.heap.size wr V') :=
  ⟨Lib.hid (by rw [h]; exact hb.out.set_ j x), Lib.hid (by rw [h]; exact hw.out.setCell (p := ⟨G, j, none⟩) hG x)⟩
set_option maxRecDepth 100000 in
set_option maxHeartbeats 16000000 in
theorem fit_calls (t : Tp) (ht : t.wf) (p : Option Go.Addr) (c : Nat) (w : World) (hp : RAt w p t.recs) (hl : t.recs.length ≤ 1099511627776) (hd : ∀ r ∈ t.recs, r.data.length ≤ 1099511627776) : Calls Tryz.prog 25 #[.agg #[.int .i64 t.snap, .slice p t.recs.length c]] w fun e w' =>
    ∃ v ds, e = .returned (.agg #[.int .i64 (fitV t).snap, v]) ∧ TO w' w.heap.size v (fitV t).recs ds ∧ Below w.heap.size w w' := by
  have HP := Lib.hid hp
  have HD := Lib.hid hd
  have HWF := Lib.hid ht.2
  have HRS := Lib.hid (fun w => rest_calls t.snap 0 65575 (by omega) (by omega) (by omega) ht.1 w)
  obtain ⟨s0, s1⟩ := restV_in (n := t.snap) (show (0 : Int) ≤ 65575 by omega)
  have HFV : Hid (fitV t = ⟨restV t.snap 0 65575, fitL (restV t.snap 0 65575) 0 (t.recs.take 200)⟩) := Lib.hid rfl
  obtain ⟨n, hn⟩ : ∃ n, t.recs.length = n := ⟨_, rfl⟩
  have HN := Lib.hid hn
  rw [hn] at hl ⊢
  obtain ⟨s, hs⟩ : ∃ q, restV t.snap 0 65575 = q := ⟨_, rfl⟩
  rw [hs] at HRS HFV s0 s1
  obtain ⟨sn, hsn⟩ : ∃ n, t.snap = n := ⟨_, rfl⟩
  rw [hsn] at HRS ⊢
  clear hp hn hs hsn hd ht
  obtain ⟨i0, hi, hz0, hz1, hz2⟩ := info_parts rec_info
  go_enter Tryz.func25, Tryz.ntmps25
  go_upto_region 1 with fail
  refine wp_named fun W0 hW0 => ?_
  obtain ⟨bk, bq, BW0, sW0⟩ := box2 hW0
  obtain ⟨b0, hb0⟩ : ∃ b, w.heap.size = b := ⟨_, rfl⟩
  have HB0 := Lib.hid hb0
  rw [hb0] at bk bq sW0 ⊢
  clear hW0 hb0
  have c0 : W0.cell? ⟨b0, 0, none⟩ = some (.int .i64 sn) := bk.out.cell _
  have es : W0.heap.size = b0 + 1 + 1 := sW0.out
  go_upto_region 2 with (go_at_call 26; refine (HRS.out _).mono ?_; rintro e w' ⟨rfl, hw'⟩; rw [hw']; clear hw' w')
  refine wp_named fun W hW => ?_
  obtain ⟨bo, B1, sW⟩ := box1 hW
  have bk := Lib.hid (bk.out.later B1.out bk.out.lt)
  have bq := Lib.hid (bq.out.later B1.out bq.out.lt)
  have BW : Hid (Below b0 w W) := Lib.hid (by rw [← HB0.out]; exact (keep BW0 B1.out).out)
  have sW : Hid (W.heap.size = b0 + 3) := Lib.hid (by rw [sW.out, es])
  rw [es] at bo
  clear hW c0 es B1 sW0 BW0
  go_upto_region 4 with fail
  go_loopw [4, 5, 6, 7] (fun u4 u5 _ _ wr => ∃ (k : Nat) (a : Int) (v : Value) (ds : List Value), u5 = .int .i64 k ∧ k ≤ n ∧ k ≤ 200 ∧ u4 = .int .i64 a ∧ 0 ≤ a ∧ a ≤ 4 * (k : Int) ∧ Hid (a = lastV 0 (fitL s 0 (t.recs.take k))) ∧ Hid (Blk wr (b0 + 1 + 1) 24 #[.int .i64 s, v]) ∧ Hid (TO wr (b0 + 3) v (fitL s 0 (t.recs.take k)) ds) ∧ Hid (Fr (Sb (b0 + 1 + 1) (b0 + 3)) W wr)) (fun _ u5 _ _ _ => n - (intOf u5).toNat)
  case atStart => exact ⟨0, 0, _, [], rfl, Nat.zero_le _, Nat.zero_le _, rfl, by omega, by omega, Lib.hid rfl, bo, Lib.hid (by simpa [fitL] using TO.nil W (b0 + 3)), Lib.hid (Fr.refl _ _)⟩
  case round =>
    clear bo
    obtain ⟨k, a, v, ds, rfl, hk, hk2, rfl, ha0, ha1, HLA, bo, HT, HF⟩ := hrel
    have HB : Hid (Below b0 w wr) := Lib.hid (BW.out.trans (HF.out.below (fun k hk e => by rcases e with e | e <;> omega) (by have := sW.out; omega)))
    have HS : Hid (b0 + 3 ≤ wr.heap.size) := Lib.hid (by have := sW.out; have := HF.out.size; omega)
    have bkr := Lib.hid (HF.out.blk bk.out (fun e => by rcases e with e | e <;> omega))
    have c1 : wr.cell? ⟨b0, 1, none⟩ = some (.slice p n c) := bkr.out.cell _
    by_cases hlt : k < n ∧ k < 200
    · obtain ⟨hlt, hlt2⟩ := hlt
      have x1 : decide ((k : Int) < (n : Int)) = true := decide_eq_true (by omega)
      have x1' : decide (k < n) = true := decide_eq_true hlt
      have x2 : decide ((k : Int) < 200) = true := decide_eq_true (by omega)
      have x2' : decide (k < 200) = true := decide_eq_true hlt2
      obtain ⟨r, hr⟩ : ∃ r, t.recs[k]? = some r := ⟨_, List.getElem?_eq_getElem (by have := HN.out; omega)⟩
      have hmem := List.mem_of_getElem? hr
      have hdl := HD.out r hmem
      obtain ⟨w1, w2, w3⟩ := HWF.out r hmem
      obtain ⟨g, o, rfl, hgl, pd, cd, hr5, hbd, _⟩ := own_cellsB (HP.out.later (by rw [HB0.out]; exact HB.out)) hr
      have HDT := Lib.hid hbd
      have HTN : Hid ((fitL s 0 (t.recs.take k)).length = k) := Lib.hid (by rw [fitL_len, List.length_take, HN.out]; omega)
      have HTK : Hid (fitL s 0 (t.recs.take (k + 1)) = fitL s 0 (t.recs.take k) ++ [fitR s a r]) := Lib.hid (by rw [List.take_add_one, hr, HLA.out]; exact fitL_snoc s r _ 0)
      have HLA2 : Hid (a + waitV r.tk % 5 = lastV 0 (fitL s 0 (t.recs.take (k + 1)))) := Lib.hid (by rw [HTK.out, lastV_snoc, fitR_tk])
      clear hr hbd hgl hmem
      obtain ⟨l, hl'⟩ : ∃ l, fitL s 0 (t.recs.take k) = l := ⟨_, rfl⟩
      rw [hl'] at HT HTN HTK HLA
      have HRN := Lib.hid (fun w => rest_calls r.node 0 15 (by omega) (by omega) (by omega) w2 w)
      have HRL := Lib.hid (fun w => rest_calls r.long s 65575 (by omega) (by omega) (by omega) w3 w)
      have HFR : Hid (fitR s a r = if s ≤ ((r.data.take 2000).length : Int) then ⟨a + waitV r.tk % 5, restV r.node 0 15, r.out, restV r.long s 65575, (r.data.take 2000).take s.toNat⟩ else ⟨a + waitV r.tk % 5, restV r.node 0 15, r.out, ((r.data.take 2000).length : Int), r.data.take 2000⟩) := Lib.hid rfl
      have hw0 := waitV_in (x := r.tk)
      have HWV : Hid ((r.tk < 0 ∧ waitV r.tk = -1 - r.tk) ∨ (0 ≤ r.tk ∧ waitV r.tk = r.tk)) := Lib.hid (by unfold waitV; by_cases h : r.tk < 0; exact .inl ⟨h, if_pos h⟩; exact .inr ⟨by omega, if_neg h⟩)
      obtain ⟨tk, nd, ou, lg, dt⟩ := r
      simp only at HRN HRL HFR HDT HLA2 hdl hw0 HWV w1
      obtain ⟨wv, hwv⟩ : ∃ q, waitV tk = q := ⟨_, rfl⟩
      rw [hwv] at HFR HLA2 hw0 HWV
      obtain ⟨rn, hrn⟩ : ∃ q, restV nd 0 15 = q := ⟨_, rfl⟩
      rw [hrn] at HRN HFR
      obtain ⟨rl, hrl⟩ : ∃ q, restV lg s 65575 = q := ⟨_, rfl⟩
      rw [hrl] at HRL HFR
      have d0 : wr.cell? ⟨g, o + k * 5, none⟩ = some (.int .i64 tk) := hr5 0 _ rfl
      have d1 : wr.cell? ⟨g, o + k * 5 + 1, none⟩ = some (.int .i64 nd) := hr5 1 _ rfl
      have d2 : wr.cell? ⟨g, o + k * 5 + 2, none⟩ = some (.bool ou) := hr5 2 _ rfl
      have d3 : wr.cell? ⟨g, o + k * 5 + 3, none⟩ = some (.int .i64 lg) := hr5 3 _ rfl
      have d4 : wr.cell? ⟨g, o + k * 5 + 4, none⟩ = some (.slice pd dt.length cd) := hr5 4 _ rfl
      obtain ⟨dn, hdn⟩ : ∃ q, dt.length = q := ⟨_, rfl⟩
      have HDN := Lib.hid hdn
      rw [hdn] at d4 hdl
      clear hr5 hdn hl' hwv hrn hrl w2 w3
      go_upto_region 7 with fail
      refine wp_named fun V hV => ?_
      obtain ⟨b3, B3, s3⟩ := box1 hV
      obtain ⟨G, hG⟩ : ∃ g, wr.heap.size = g := ⟨_, rfl⟩
      have HG := Lib.hid hG
      have HGE : wr.heap.size ≤ G := by omega
      have HGB := Lib.hid HGE
      have c0 : V.cell? ⟨b0 + 1 + 1, 0, none⟩ = some (.int .i64 s) := (bo.out.later B3.out bo.out.lt).cell _
      rw [hG] at b3 s3 ⊢
      clear hV hG d0 d1 d2 d3 d4 c1 HGE
      have e0 : V.cell? ⟨G, 0, none⟩ = some (.int .i64 tk) := b3.out.cell _
      rcases HWV.out with ⟨ht0, htw⟩ | ⟨ht0, htw⟩
      case' inl => have f0 : decide (tk < 0) = true := decide_eq_true ht0
      case' inr => have f0 : decide (tk < 0) = false := decide_eq_false (by omega)
      case' inl => go_upto_region 10 with fail
      case' inr => go_upto_region 10 with fail
      case' inl => rw [← htw]
      case' inr => rw [← htw]
      all_goals
        clear ht0 htw f0
        have hm0 := Int.emod_nonneg wv (show (5 : Int) ≠ 0 by omega)
        have hm1 := Int.emod_lt_of_pos wv (show (0 : Int) < 5 by omega)
        have f0 : V.frozen? ⟨G, 0, none⟩ = false := b3.out.frozen _
        go_upto_region 12 with fail
        refine wp_named fun V1 hV1 => ?_
        obtain ⟨b3, B3⟩ := set_blk b3 B3 HGB.out hV1
        have b3 : Hid (Blk V1 G 48 #[.int .i64 (a + wv % 5), .int .i64 nd, .bool ou, .int .i64 lg, .slice pd dn cd]) := b3
        clear hV1 e0 f0
        have e1 : V1.cell? ⟨G, 1, none⟩ = some (.int .i64 nd) := b3.out.cell _
        have f1 : V1.frozen? ⟨G, 1, none⟩ = false := b3.out.frozen _
        go_upto_region 13 with (go_at_call 26; refine (HRN.out _).mono ?_; rintro e w' ⟨rfl, hw'⟩; rw [hw']; clear hw' w')
        refine wp_named fun V2 hV2 => ?_
        obtain ⟨b3, B3⟩ := set_blk b3 B3 HGB.out hV2
        have b3 : Hid (Blk V2 G 48 #[.int .i64 (a + wv % 5), .int .i64 rn, .bool ou, .int .i64 lg, .slice pd dn cd]) := b3
        clear hV2 e1 f1
        have e4 : V2.cell? ⟨G, 4, none⟩ = some (.slice pd dn cd) := b3.out.cell _
        have f4 : ∀ z, Below V2.heap.size V2 z → z.frozen? ⟨G, 4, none⟩ = false := fun z hz => (b3.out.later hz b3.out.lt).frozen 4
        have g4 : ∀ z, Below V2.heap.size V2 z → z.cell? ⟨G, 4, none⟩ = some (.slice pd dn cd) := fun z hz => (b3.out.later hz b3.out.lt).cell 4
        have HOW := Lib.hid (own_calls dt pd dn cd HDN.out.symm (by rw [HDN.out]; omega) V2 (HDT.out.later B3.out))
        rw [HDN.out] at HOW
        go_upto_region 14 with (go_at_call 19; refine HOW.out.mono ?_; rintro e V3 ⟨d, rfl, hd1, hB1⟩; obtain ⟨p1, c1, rfl, hc1, hc2, hc3⟩ := own_shape hd1; have f4 := f4 _ hB1; have e4 := g4 _ hB1)
        refine wp_named fun V4 hV4 => ?_
        have hGV : G < V2.heap.size := b3.out.lt
        have b3 : Hid (Blk V3 G 48 #[.int .i64 (a + wv % 5), .int .i64 rn, .bool ou, .int .i64 lg, .slice pd dn cd]) := Lib.hid (b3.out.later hB1 b3.out.lt)
        have B3 : Hid (Below wr.heap.size wr V3) := Lib.hid (B3.out.trans (hB1.mono B3.out.size))
        obtain ⟨b3, B3⟩ := set_blk b3 B3 HGB.out hV4
        have b3 : Hid (Blk V4 G 48 #[.int .i64 (a + wv % 5), .int .i64 rn, .bool ou, .int .i64 lg, .slice p1 dn c1]) := b3
        have HD4 : Hid (V4.ownsRow (G + 1) 5 1 (.slice p1 dn c1) dn (Lib.byteCells dt)) := Lib.hid (by rw [hV4]; exact own_base (ownsRow_setCell_below hd1 (by exact hGV) _) (by omega))
        have HC := Lib.hid (And.intro hc1 (And.intro hc2 hc3))
        clear hV4 e4 f4 g4 hd1 hB1 hGV HOW hc2 hc3
        have e4 : V4.cell? ⟨G, 4, none⟩ = some (.slice p1 dn c1) := b3.out.cell _
        have f4 : V4.frozen? ⟨G, 4, none⟩ = false := b3.out.frozen _
        by_cases g1 : 2000 < dn
        · have y1 : decide ((2000 : Int) < (dn : Int)) = true := decide_eq_true (by omega)
          have y1' : decide (2000 < dn) = true := decide_eq_true g1
          have hsl : ∀ z, (Instr.slice 26 (.slice p1 dn c1) none (some (.int .i64 2000)) none).run Tryz.prog z = .ok (.slice p1 2000 c1) z := fun z => run_cutoff (m := 2000) (by omega) HC.out.2.1 HC.out.2.2 z
          go_upto_region 16 with fail
          refine wp_named fun V5 hV5 => ?_
          obtain ⟨b3, B3⟩ := set_blk b3 B3 HGB.out hV5
          have b3 : Hid (Blk V5 G 48 #[.int .i64 (a + wv % 5), .int .i64 rn, .bool ou, .int .i64 lg, .slice p1 2000 c1]) := b3
          have HD5 : Hid (V5.ownsRow (G + 1) 5 1 (.slice p1 2000 c1) 2000 (Lib.byteCells (dt.take 2000))) := Lib.hid (by
            rw [show Lib.byteCells (dt.take 2000) = (Lib.byteCells dt).take 2000 by simp [Lib.byteCells], hV5]
            exact ownsRow_setCell_below (own_front HD4.out (by omega)) (by show G < G + 1; omega) _)
          have HLN : Hid ((dt.take 2000).length = 2000) := Lib.hid (by rw [List.length_take, HDN.out]; omega)
          have hM : 2000 ≤ c1 := by omega
          clear hV5 e4 f4 y1 y1' hsl HD4 g1
          have e4 : V5.cell? ⟨G, 4, none⟩ = some (.slice p1 2000 c1) := b3.out.cell _
          have f4 : V5.frozen? ⟨G, 4, none⟩ = false := b3.out.frozen _
          have c0 : V5.cell? ⟨b0 + 1 + 1, 0, none⟩ = some (.int .i64 s) := (bo.out.later B3.out bo.out.lt).cell _
          by_cases g2 : s ≤ (2000 : Int)
          · have y2 : decide (s ≤ (2000 : Int)) = true := decide_eq_true g2
            obtain ⟨sN, hsN⟩ : ∃ q : Nat, s = (q : Int) := ⟨s.toNat, by omega⟩
            have hsl : ∀ z, (Instr.slice 26 (.slice p1 2000 c1) none (some (.int .i64 s)) none).run Tryz.prog z = .ok (.slice p1 sN c1) z := fun z => by rw [hsN]; exact run_cutoff (m := sN) (by omega) HC.out.2.1 HC.out.2.2 z
            have HSN := Lib.hid hsN
            clear hsN
            go_upto_region 18 with fail
            refine wp_named fun V6 hV6 => ?_
            obtain ⟨b3, B3⟩ := set_blk b3 B3 HGB.out hV6
            have b3 : Hid (Blk V6 G 48 #[.int .i64 (a + wv % 5), .int .i64 rn, .bool ou, .int .i64 lg, .slice p1 sN c1]) := b3
            have HD6 : Hid (V6.ownsRow (G + 1) 5 1 (.slice p1 sN c1) sN (Lib.byteCells ((dt.take 2000).take s.toNat))) := Lib.hid (by
              have := HSN.out
              rw [show s.toNat = sN by omega, show Lib.byteCells ((dt.take 2000).take sN) = (Lib.byteCells (dt.take 2000)).take sN by simp [Lib.byteCells], hV6]
              exact ownsRow_setCell_below (own_front HD5.out (by omega)) (by show G < G + 1; omega) _)
            have HLD : Hid (((dt.take 2000).take s.toNat).length = sN) := Lib.hid (by have := HSN.out; rw [List.length_take, HLN.out]; omega)
            clear hV6 e4 f4 hsl HD5 y2 c0
            have e3 : V6.cell? ⟨G, 3, none⟩ = some (.int .i64 lg) := b3.out.cell _
            have f3 : V6.frozen? ⟨G, 3, none⟩ = false := b3.out.frozen _
            have c0 : V6.cell? ⟨b0 + 1 + 1, 0, none⟩ = some (.int .i64 s) := (bo.out.later B3.out bo.out.lt).cell _
            go_upto_region 20 with (go_at_call 26; refine (HRL.out _).mono ?_; rintro e w' ⟨rfl, hw'⟩; rw [hw']; clear hw' w')
            refine wp_named fun V7 hV7 => ?_
            obtain ⟨b3, B3⟩ := set_blk b3 B3 HGB.out hV7
            have b3 : Hid (Blk V7 G 48 #[.int .i64 (a + wv % 5), .int .i64 rn, .bool ou, .int .i64 rl, .slice p1 sN c1]) := b3
            have HD7 : Hid (V7.ownsRow (G + 1) 5 1 (.slice p1 sN c1) sN (Lib.byteCells ((dt.take 2000).take s.toNat))) := Lib.hid (by rw [hV7]; exact ownsRow_setCell_below HD6.out (by show G < G + 1; omega) _)
            have HRC : Hid (fitR s a ⟨tk, nd, ou, lg, dt⟩ = ⟨a + wv % 5, rn, ou, rl, (dt.take 2000).take s.toNat⟩) := Lib.hid (by rw [HFR.out, if_pos (by rw [HLN.out]; exact g2)])
            clear hV7 e3 f3 HD6 c0
            rw [HRC.out] at HTK
            have o1 : V7.cell? ⟨b0 + 1 + 1, 1, none⟩ = some v := (bo.out.later B3.out bo.out.lt).cell _
            have fo : V7.frozen? ⟨b0 + 1 + 1, 1, none⟩ = false := (bo.out.later B3.out bo.out.lt).frozen _
            have r0 : V7.cell? ⟨G, 0, none⟩ = some (.int .i64 (a + wv % 5)) := b3.out.cell _
            have r1 : V7.cell? ⟨G, 1, none⟩ = some (.int .i64 rn) := b3.out.cell _
            have r2 : V7.cell? ⟨G, 2, none⟩ = some (.bool ou) := b3.out.cell _
            have r3 : V7.cell? ⟨G, 3, none⟩ = some (.int .i64 rl) := b3.out.cell _
            have r4 : V7.cell? ⟨G, 4, none⟩ = some (.slice p1 sN c1) := b3.out.cell _
            have HW : Hid (V7.ownsRow (b0 + 3) 48 5 v k (cellsR l ds)) := Lib.hid (by have := (HT.out.later B3.out).own; rwa [HTN.out] at this)
            have HSV : Hid (b0 + 3 ≤ V7.heap.size) := Lib.hid (Nat.le_trans HS.out B3.out.size)
            have HDR : Hid (V7.ownsRow wr.heap.size 5 1 (.slice p1 sN c1) ((dt.take 2000).take s.toNat).length (Lib.byteCells ((dt.take 2000).take s.toNat))) := Lib.hid (by rw [HLD.out]; exact own_base HD7.out (by have := HG.out; omega))
            go_wp2_with (at_builtin; refine wpList_append_two rfl _ _ 22 rfl 48 i0 _ 5 56 Tryz.underlying22 hi hz0 hz1 hz2 (by rfl) (by omega) (b0 + 3) v k _ rfl (World.ownsRow.alloc HW.out _) ⟨V7.heap.size, 0, none⟩ 1 1 (recC ⟨a + wv % 5, rn, ou, rl, (dt.take 2000).take s.toNat⟩ (.slice p1 sN c1)) rfl rfl (news_of _ _ _) (recC_one _ _ _ _) (by omega) (by unfold maxLen; omega) (by omega) (by have := HSV.out; simp; omega) ?_; intro g2 cap w1 hown hgr hlt2; have bm := HT.out.mid B3.out (show b0 + 1 + 1 < b0 + 3 by omega) _ hgr bo.out; have m1 : w1.cell? ⟨b0 + 1 + 1, 1, none⟩ = some v := bm.cell _; have fm : w1.frozen? ⟨b0 + 1 + 1, 1, none⟩ = false := bm.frozen _; clear bm)
            obtain ⟨q1, q2, q3⟩ := HT.out.step HTN.out B3.out HS.out (show b0 + 1 + 1 < b0 + 3 by omega) ⟨a + wv % 5, rn, ou, rl, (dt.take 2000).take s.toNat⟩ _ HDR.out _ hown hgr
            rw [← HTK.out] at q1
            exact ⟨⟨k + 1, a + wv % 5, _, _, by go_num, by omega, by omega, rfl, by omega, by omega, HLA2, q3 _ _ bo.out, q1, Lib.hid (HF.out.trans q2.out)⟩, by simp [intOf]; omega⟩
          · have y2 : decide (s ≤ (2000 : Int)) = false := decide_eq_false g2
            have e3 : V5.cell? ⟨G, 3, none⟩ = some (.int .i64 lg) := b3.out.cell _
            have f3 : V5.frozen? ⟨G, 3, none⟩ = false := b3.out.frozen _
            go_upto_region 20 with fail
            refine wp_named fun V7 hV7 => ?_
            obtain ⟨b3, B3⟩ := set_blk b3 B3 HGB.out hV7
            have b3 : Hid (Blk V7 G 48 #[.int .i64 (a + wv % 5), .int .i64 rn, .bool ou, .int .i64 (2000 : Int), .slice p1 2000 c1]) := b3
            have HD7 : Hid (V7.ownsRow (G + 1) 5 1 (.slice p1 2000 c1) 2000 (Lib.byteCells (dt.take 2000))) := Lib.hid (by rw [hV7]; exact ownsRow_setCell_below HD5.out (by show G < G + 1; omega) _)
            have HRC : Hid (fitR s a ⟨tk, nd, ou, lg, dt⟩ = ⟨a + wv % 5, rn, ou, (2000 : Int), dt.take 2000⟩) := Lib.hid (by rw [HFR.out, if_neg (by rw [HLN.out]; exact g2), HLN.out] <;> rfl)
            have HLD := HLN
            clear hV7 e3 f3 e4 f4 HD5 y2 c0
            rw [HRC.out] at HTK
            have o1 : V7.cell? ⟨b0 + 1 + 1, 1, none⟩ = some v := (bo.out.later B3.out bo.out.lt).cell _
            have fo : V7.frozen? ⟨b0 + 1 + 1, 1, none⟩ = false := (bo.out.later B3.out bo.out.lt).frozen _
            have r0 : V7.cell? ⟨G, 0, none⟩ = some (.int .i64 (a + wv % 5)) := b3.out.cell _
            have r1 : V7.cell? ⟨G, 1, none⟩ = some (.int .i64 rn) := b3.out.cell _
            have r2 : V7.cell? ⟨G, 2, none⟩ = some (.bool ou) := b3.out.cell _
            have r3 : V7.cell? ⟨G, 3, none⟩ = some (.int .i64 (2000 : Int)) := b3.out.cell _
            have r4 : V7.cell? ⟨G, 4, none⟩ = some (.slice p1 2000 c1) := b3.out.cell _
            have HW : Hid (V7.ownsRow (b0 + 3) 48 5 v k (cellsR l ds)) := Lib.hid (by have := (HT.out.later B3.out).own; rwa [HTN.out] at this)
            have HSV : Hid (b0 + 3 ≤ V7.heap.size) := Lib.hid (Nat.le_trans HS.out B3.out.size)
            have HDR : Hid (V7.ownsRow wr.heap.size 5 1 (.slice p1 2000 c1) (dt.take 2000).length (Lib.byteCells (dt.take 2000))) := Lib.hid (by rw [HLD.out]; exact own_base HD7.out (by have := HG.out; omega))
            go_wp2_with (at_builtin; refine wpList_append_two rfl _ _ 22 rfl 48 i0 _ 5 56 Tryz.underlying22 hi hz0 hz1 hz2 (by rfl) (by omega) (b0 + 3) v k _ rfl (World.ownsRow.alloc HW.out _) ⟨V7.heap.size, 0, none⟩ 1 1 (recC ⟨a + wv % 5, rn, ou, (2000 : Int), dt.take 2000⟩ (.slice p1 2000 c1)) rfl rfl (news_of _ _ _) (recC_one _ _ _ _) (by omega) (by unfold maxLen; omega) (by omega) (by have := HSV.out; simp; omega) ?_; intro g2 cap w1 hown hgr hlt2; have bm := HT.out.mid B3.out (show b0 + 1 + 1 < b0 + 3 by omega) _ hgr bo.out; have m1 : w1.cell? ⟨b0 + 1 + 1, 1, none⟩ = some v := bm.cell _; have fm : w1.frozen? ⟨b0 + 1 + 1, 1, none⟩ = false := bm.frozen _; clear bm)
            obtain ⟨q1, q2, q3⟩ := HT.out.step HTN.out B3.out HS.out (show b0 + 1 + 1 < b0 + 3 by omega) ⟨a + wv % 5, rn, ou, (2000 : Int), dt.take 2000⟩ _ HDR.out _ hown hgr
            rw [← HTK.out] at q1
            exact ⟨⟨k + 1, a + wv % 5, _, _, by go_num, by omega, by omega, rfl, by omega, by omega, HLA2, q3 _ _ bo.out, q1, Lib.hid (HF.out.trans q2.out)⟩, by simp [intOf]; omega⟩
        · have y1 : decide ((2000 : Int) < (dn : Int)) = false := decide_eq_false (by omega)
          have y1' : decide (2000 < dn) = false := decide_eq_false g1
          go_upto_region 16 with fail
          have HDX : Hid (dt.take 2000 = dt) := Lib.hid (List.take_of_length_le (by rw [HDN.out]; omega))
          have HD5 := HD4
          have HLN : Hid (dt.length = dn) := HDN
          have hM : dn ≤ c1 := hc1
          have hdn2 : dn ≤ 2000 := by omega
          clear e4 f4 y1 y1' HD4 g1
          have e4 : V4.cell? ⟨G, 4, none⟩ = some (.slice p1 dn c1) := b3.out.cell _
          have f4 : V4.frozen? ⟨G, 4, none⟩ = false := b3.out.frozen _
          have c0 : V4.cell? ⟨b0 + 1 + 1, 0, none⟩ = some (.int .i64 s) := (bo.out.later B3.out bo.out.lt).cell _
          by_cases g2 : s ≤ (dn : Int)
          · have y2 : decide (s ≤ (dn : Int)) = true := decide_eq_true g2
            obtain ⟨sN, hsN⟩ : ∃ q : Nat, s = (q : Int) := ⟨s.toNat, by omega⟩
            have hsl : ∀ z, (Instr.slice 26 (.slice p1 dn c1) none (some (.int .i64 s)) none).run Tryz.prog z = .ok (.slice p1 sN c1) z := fun z => by rw [hsN]; exact run_cutoff (m := sN) (by omega) HC.out.2.1 HC.out.2.2 z
            have HSN := Lib.hid hsN
            clear hsN
            go_upto_region 18 with fail
            refine wp_named fun V6 hV6 => ?_
            obtain ⟨b3, B3⟩ := set_blk b3 B3 HGB.out hV6
            have b3 : Hid (Blk V6 G 48 #[.int .i64 (a + wv % 5), .int .i64 rn, .bool ou, .int .i64 lg, .slice p1 sN c1]) := b3
            have HD6 : Hid (V6.ownsRow (G + 1) 5 1 (.slice p1 sN c1) sN (Lib.byteCells ((dt).take s.toNat))) := Lib.hid (by
              have := HSN.out
              rw [show s.toNat = sN by omega, show Lib.byteCells ((dt).take sN) = (Lib.byteCells (dt)).take sN by simp [Lib.byteCells], hV6]
              exact ownsRow_setCell_below (own_front HD5.out (by omega)) (by show G < G + 1; omega) _)
            have HLD : Hid (((dt).take s.toNat).length = sN) := Lib.hid (by have := HSN.out; rw [List.length_take, HLN.out]; omega)
            clear hV6 e4 f4 hsl HD5 y2 c0
            have e3 : V6.cell? ⟨G, 3, none⟩ = some (.int .i64 lg) := b3.out.cell _
            have f3 : V6.frozen? ⟨G, 3, none⟩ = false := b3.out.frozen _
            have c0 : V6.cell? ⟨b0 + 1 + 1, 0, none⟩ = some (.int .i64 s) := (bo.out.later B3.out bo.out.lt).cell _
            go_upto_region 20 with (go_at_call 26; refine (HRL.out _).mono ?_; rintro e w' ⟨rfl, hw'⟩; rw [hw']; clear hw' w')
            refine wp_named fun V7 hV7 => ?_
            obtain ⟨b3, B3⟩ := set_blk b3 B3 HGB.out hV7
            have b3 : Hid (Blk V7 G 48 #[.int .i64 (a + wv % 5), .int .i64 rn, .bool ou, .int .i64 rl, .slice p1 sN c1]) := b3
            have HD7 : Hid (V7.ownsRow (G + 1) 5 1 (.slice p1 sN c1) sN (Lib.byteCells ((dt).take s.toNat))) := Lib.hid (by rw [hV7]; exact ownsRow_setCell_below HD6.out (by show G < G + 1; omega) _)
            have HRC : Hid (fitR s a ⟨tk, nd, ou, lg, dt⟩ = ⟨a + wv % 5, rn, ou, rl, (dt).take s.toNat⟩) := Lib.hid (by rw [HFR.out, HDX.out, if_pos (by rw [HLN.out]; exact g2)])
            clear hV7 e3 f3 HD6 c0
            rw [HRC.out] at HTK
            have o1 : V7.cell? ⟨b0 + 1 + 1, 1, none⟩ = some v := (bo.out.later B3.out bo.out.lt).cell _
            have fo : V7.frozen? ⟨b0 + 1 + 1, 1, none⟩ = false := (bo.out.later B3.out bo.out.lt).frozen _
            have r0 : V7.cell? ⟨G, 0, none⟩ = some (.int .i64 (a + wv % 5)) := b3.out.cell _
            have r1 : V7.cell? ⟨G, 1, none⟩ = some (.int .i64 rn) := b3.out.cell _
            have r2 : V7.cell? ⟨G, 2, none⟩ = some (.bool ou) := b3.out.cell _
            have r3 : V7.cell? ⟨G, 3, none⟩ = some (.int .i64 rl) := b3.out.cell _
            have r4 : V7.cell? ⟨G, 4, none⟩ = some (.slice p1 sN c1) := b3.out.cell _
            have HW : Hid (V7.ownsRow (b0 + 3) 48 5 v k (cellsR l ds)) := Lib.hid (by have := (HT.out.later B3.out).own; rwa [HTN.out] at this)
            have HSV : Hid (b0 + 3 ≤ V7.heap.size) := Lib.hid (Nat.le_trans HS.out B3.out.size)
            have HDR : Hid (V7.ownsRow wr.heap.size 5 1 (.slice p1 sN c1) ((dt).take s.toNat).length (Lib.byteCells ((dt).take s.toNat))) := Lib.hid (by rw [HLD.out]; exact own_base HD7.out (by have := HG.out; omega))
            go_wp2_with (at_builtin; refine wpList_append_two rfl _ _ 22 rfl 48 i0 _ 5 56 Tryz.underlying22 hi hz0 hz1 hz2 (by rfl) (by omega) (b0 + 3) v k _ rfl (World.ownsRow.alloc HW.out _) ⟨V7.heap.size, 0, none⟩ 1 1 (recC ⟨a + wv % 5, rn, ou, rl, (dt).take s.toNat⟩ (.slice p1 sN c1)) rfl rfl (news_of _ _ _) (recC_one _ _ _ _) (by omega) (by unfold maxLen; omega) (by omega) (by have := HSV.out; simp; omega) ?_; intro g2 cap w1 hown hgr hlt2; have bm := HT.out.mid B3.out (show b0 + 1 + 1 < b0 + 3 by omega) _ hgr bo.out; have m1 : w1.cell? ⟨b0 + 1 + 1, 1, none⟩ = some v := bm.cell _; have fm : w1.frozen? ⟨b0 + 1 + 1, 1, none⟩ = false := bm.frozen _; clear bm)
            obtain ⟨q1, q2, q3⟩ := HT.out.step HTN.out B3.out HS.out (show b0 + 1 + 1 < b0 + 3 by omega) ⟨a + wv % 5, rn, ou, rl, (dt).take s.toNat⟩ _ HDR.out _ hown hgr
            rw [← HTK.out] at q1
            exact ⟨⟨k + 1, a + wv % 5, _, _, by go_num, by omega, by omega, rfl, by omega, by omega, HLA2, q3 _ _ bo.out, q1, Lib.hid (HF.out.trans q2.out)⟩, by simp [intOf]; omega⟩
          · have y2 : decide (s ≤ (dn : Int)) = false := decide_eq_false g2
            have e3 : V4.cell? ⟨G, 3, none⟩ = some (.int .i64 lg) := b3.out.cell _
            have f3 : V4.frozen? ⟨G, 3, none⟩ = false := b3.out.frozen _
            go_upto_region 20 with fail
            refine wp_named fun V7 hV7 => ?_
            obtain ⟨b3, B3⟩ := set_blk b3 B3 HGB.out hV7
            have b3 : Hid (Blk V7 G 48 #[.int .i64 (a + wv % 5), .int .i64 rn, .bool ou, .int .i64 (dn : Int), .slice p1 dn c1]) := b3
            have HD7 : Hid (V7.ownsRow (G + 1) 5 1 (.slice p1 dn c1) dn (Lib.byteCells (dt))) := Lib.hid (by rw [hV7]; exact ownsRow_setCell_below HD5.out (by show G < G + 1; omega) _)
            have HRC : Hid (fitR s a ⟨tk, nd, ou, lg, dt⟩ = ⟨a + wv % 5, rn, ou, (dn : Int), dt⟩) := Lib.hid (by rw [HFR.out, HDX.out, if_neg (by rw [HLN.out]; exact g2), HLN.out] <;> rfl)
            have HLD := HLN
            clear hV7 e3 f3 e4 f4 HD5 y2 c0
            rw [HRC.out] at HTK
            have o1 : V7.cell? ⟨b0 + 1 + 1, 1, none⟩ = some v := (bo.out.later B3.out bo.out.lt).cell _
            have fo : V7.frozen? ⟨b0 + 1 + 1, 1, none⟩ = false := (bo.out.later B3.out bo.out.lt).frozen _
            have r0 : V7.cell? ⟨G, 0, none⟩ = some (.int .i64 (a + wv % 5)) := b3.out.cell _
            have r1 : V7.cell? ⟨G, 1, none⟩ = some (.int .i64 rn) := b3.out.cell _
            have r2 : V7.cell? ⟨G, 2, none⟩ = some (.bool ou) := b3.out.cell _
            have r3 : V7.cell? ⟨G, 3, none⟩ = some (.int .i64 (dn : Int)) := b3.out.cell _
            have r4 : V7.cell? ⟨G, 4, none⟩ = some (.slice p1 dn c1) := b3.out.cell _
            have HW : Hid (V7.ownsRow (b0 + 3) 48 5 v k (cellsR l ds)) := Lib.hid (by have := (HT.out.later B3.out).own; rwa [HTN.out] at this)
            have HSV : Hid (b0 + 3 ≤ V7.heap.size) := Lib.hid (Nat.le_trans HS.out B3.out.size)
            have HDR : Hid (V7.ownsRow wr.heap.size 5 1 (.slice p1 dn c1) (dt).length (Lib.byteCells (dt))) := Lib.hid (by rw [HLD.out]; exact own_base HD7.out (by have := HG.out; omega))
            go_wp2_with (at_builtin; refine wpList_append_two rfl _ _ 22 rfl 48 i0 _ 5 56 Tryz.underlying22 hi hz0 hz1 hz2 (by rfl) (by omega) (b0 + 3) v k _ rfl (World.ownsRow.alloc HW.out _) ⟨V7.heap.size, 0, none⟩ 1 1 (recC ⟨a + wv % 5, rn, ou, (dn : Int), dt⟩ (.slice p1 dn c1)) rfl rfl (news_of _ _ _) (recC_one _ _ _ _) (by omega) (by unfold maxLen; omega) (by omega) (by have := HSV.out; simp; omega) ?_; intro g2 cap w1 hown hgr hlt2; have bm := HT.out.mid B3.out (show b0 + 1 + 1 < b0 + 3 by omega) _ hgr bo.out; have m1 : w1.cell? ⟨b0 + 1 + 1, 1, none⟩ = some v := bm.cell _; have fm : w1.frozen? ⟨b0 + 1 + 1, 1, none⟩ = false := bm.frozen _; clear bm)
            obtain ⟨q1, q2, q3⟩ := HT.out.step HTN.out B3.out HS.out (show b0 + 1 + 1 < b0 + 3 by omega) ⟨a + wv % 5, rn, ou, (dn : Int), dt⟩ _ HDR.out _ hown hgr
            rw [← HTK.out] at q1
            exact ⟨⟨k + 1, a + wv % 5, _, _, by go_num, by omega, by omega, rfl, by omega, by omega, HLA2, q3 _ _ bo.out, q1, Lib.hid (HF.out.trans q2.out)⟩, by simp [intOf]; omega⟩
    · have HTK : Hid ((fitV t).recs = fitL s 0 (t.recs.take k)) := Lib.hid (by
        rw [HFV.out]
        simp only
        have := HN.out
        rcases (show k = n ∨ k = 200 by omega) with h | h
        · rw [List.take_of_length_le (show t.recs.length ≤ 200 by omega), List.take_of_length_le (show t.recs.length ≤ k by omega)]
        · rw [h])
      have HSN : Hid ((fitV t).snap = s) := Lib.hid (by rw [HFV.out])
      have hT := HT.out
      rw [← HTK.out] at hT
      obtain ⟨m, hm⟩ : ∃ m, (fitV t).recs.length = m := ⟨_, rfl⟩
      obtain ⟨pv, cv, hv, _, _, _⟩ := hT.rat
      rw [hm] at hv
      subst hv
      have HT := Lib.hid hT
      have o0 : wr.cell? ⟨b0 + 1 + 1, 0, none⟩ = some (.int .i64 s) := bo.out.cell _
      have o1 : wr.cell? ⟨b0 + 1 + 1, 1, none⟩ = some (.slice pv m cv) := bo.out.cell _
      have bq := Lib.hid (HF.out.blk bq.out (fun e => by rcases e with e | e <;> omega))
      have q0 : wr.cell? ⟨b0 + 1, 0, none⟩ = some (.int .i64 0) := bq.out.cell _
      have q1 : wr.cell? ⟨b0 + 1, 1, none⟩ = some (.slice none 0 0) := bq.out.cell _
      have f0 : wr.frozen? ⟨b0 + 1, 0, none⟩ = false := bq.out.frozen _
      have f1 : wr.frozen? ⟨b0 + 1, 1, none⟩ = false := bq.out.frozen _
      clear hT hm HLA
      have hcase : decide ((k : Int) < (n : Int)) = false ∧ decide (k < n) = false ∨ decide ((k : Int) < (n : Int)) = true ∧ decide (k < n) = true ∧ decide ((k : Int) < 200) = false ∧ decide (k < 200) = false := by
        by_cases h : k < n
        · exact .inr ⟨decide_eq_true (by omega), decide_eq_true h, decide_eq_false (by omega), decide_eq_false (by omega)⟩
        · exact .inl ⟨decide_eq_false (by omega), decide_eq_false h⟩
      clear hlt
      rcases hcase with ⟨x1, x2⟩ | ⟨x1, x2, x3, x4⟩
      all_goals
        go_wp2
        have hf2 : Fr (fun k => k = b0 + 1) wr ((wr.setCell ⟨b0 + 1, 0, none⟩ (.int .i64 s)).setCell ⟨b0 + 1, 1, none⟩ (.slice pv m cv)) := Fr.trans fr_set fr_set
        refine bodyPost_ret (v := .agg #[.int .i64 s, .slice pv m cv]) (by exact results_cell_row (fn := Tryz.f25) rfl _ _ (b0 + 1) 24 _ (0, 0) _ rfl ((bq.out.set_ 0 (.int .i64 s)).set_ 1 (.slice pv m cv)) Tryz.underlying24 rfl tape_size) rfl ⟨_, ds, by rw [HSN.out], ?_, ?_⟩
        · rw [HB0.out]
          exact (HT.out.fr hf2 (fun k hk e => by have := own_ge HT.out.own k hk; omega) (fun x hx k hk e => by have := (HT.out.dlt hx k hk).1; omega)).base (by omega)
        · rw [HB0.out]
          exact HB.out.trans (hf2.below (fun k hk e => by omega) (by have := HS.out; omega))
theorem fit_t {t : Tp} (ht : t.wf) {p : Option Go.Addr} {n c : Nat} {w : World} (h : Tin w p n c t) (hb : Bnd t) : Calls Tryz.prog 25 #[.agg #[.int .i64 t.snap, .slice p n c]] w fun e w' => ∃ p' n' c', e = .returned (.agg #[.int .i64 (fitV t).snap, .slice p' n' c']) ∧ n' ≤ 200 ∧ Tin w' p' n' c' (fitV t) ∧ Below w.heap.size w w' := by
  obtain ⟨rfl, h1, h2⟩ := h
  refine (fit_calls t ht p c w h1 (by have := hb.1; omega) (fun r hr => by have := hb.2 r hr; omega)).mono ?_
  rintro e w' ⟨v, ds, rfl, h3, h4⟩
  obtain ⟨p', c', rfl, h5⟩ := Tin.of h3
  exact ⟨p', _, c', rfl, (fit_small t).1, h5, h4⟩
end Go.Proofs.YtpciggnanlflkaaGreatDoor.Ad
