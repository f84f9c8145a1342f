/- The walk of TapeCutOff. Conditions: at most 1048576 records and bytes; numbers within 64 bits; the library's variables hold what its text lays. -/
import Derived.Test.YtpciggnanlflkaaGreatDoorZg
namespace Go.Proofs.YtpciggnanlflkaaGreatDoor.Ad
set_option linter.unusedVariables false
set_option linter.unusedSimpArgs false
open Go.RowKit Go.Maps W
theorem count_step {l : List UInt8} {k : Nat} {c : UInt8} (h : l[k]? = some c) : (l.take (k + 1)).count 10 = (l.take k).count 10 + if c = 10 then 1 else 0 := by
  rw [List.take_add_one, h, List.count_append]
  by_cases hc : c = 10
  · subst hc; simp
  · rw [if_neg hc]; simp [hc]
theorem count_le (l : List UInt8) (k : Nat) : (l.take k).count 10 ≤ k := by
  have h1 := List.count_le_length (a := (10 : UInt8)) (l := l.take k)
  rw [List.length_take] at h1; omega
theorem byte_ten (c : UInt8) : ((c.toNat : Int) == 10) = decide (c = 10) := by
  by_cases h : c = 10
  · subst h; rfl
  · rw [decide_eq_false h]
    refine beq_eq_false_iff_ne.2 fun e => h ?_
    exact UInt8.toNat_inj.1 (by show c.toNat = 10; omega)
theorem last_take {l : List UInt8} {m : Nat} {c : UInt8} (h : l[m]? = some c) : (l.take (m + 1)).getLast? = some c := by
  rw [List.take_add_one, h]; simp
set_option maxRecDepth 100000 in
set_option maxHeartbeats 16000000 in
theorem cutoff_calls {t : Tp} (ht : t.wf) (hb : Bnd t) {p : Option Go.Addr} {n c : Nat} {m0 : Int} (hm0 : -9223372036854775808 ≤ m0 ∧ m0 ≤ 9223372036854775807) {qb : Option Go.Addr} {mb db : Nat} {b : List UInt8} (hbl : b.length ≤ 1048576) (w : World) (h : Tin w p n c t) (h2 : BIw w qb mb db b) (hg : Gl w) :
    Calls Tryz.prog 6 #[.agg #[.int .i64 t.snap, .slice p n c], .int .i64 m0, .slice qb mb db] w fun e w' => e = .returned (.bool true) ∧ Below w.heap.size w w' := by
  have Ta := Lib.hid h
  have Qb := Lib.hid h2
  have HG := Lib.hid hg
  have Qb0 := Lib.hid h2
  have HG0 := Lib.hid hg
  have HFT := Lib.hid (fun p c w (h : Tin w p n c t) => fit_calls t ht p c w h.2.1 (by have := hb.1; omega) (fun r hr => by have := hb.2 r hr; omega))
  obtain ⟨hn1, _, _⟩ := h
  rw [← hn1] at HFT
  obtain ⟨xs, xn, bn, bX, sX, hrx, hbX, hsX⟩ := rt_letters (fit_right t)
  have RX := Lib.hid hrx
  obtain ⟨xT, hxT⟩ : ∃ q, fitV t = q := ⟨_, rfl⟩
  rw [hxT] at RX HFT hbX hsX
  have hxr := RX.out.right
  rw [RX.out.snap] at HFT
  obtain ⟨tx, htx⟩ : ∃ q, printT xT = q := ⟨_, rfl⟩
  rw [htx] at hsX
  have hbn1 : 1 ≤ bn := by rw [← RX.out.blen, hbX]; unfold bytesB; rw [List.length_append, headB_len]; omega
  have hbn2 := RX.out.bsmall
  have hsz1 : 1 ≤ sX.size := by rw [hsX, S_size, ← htx, print_is]; simp; omega
  have hsz2 : sX.size ≤ 600000000 := by rw [hsX, S_size, ← htx]; exact print_len hxr
  have htl : tx.length = sX.size := by rw [hsX, S_size]
  have HTL := Lib.hid htl
  have HSX := Lib.hid hsX
  -- the place in the bytes
  obtain ⟨k0, k1⟩ := restV_in (n := m0) (show (0 : Int) ≤ (bn : Int) - 1 by omega)
  obtain ⟨kN, hkN⟩ : ∃ q : Nat, restV m0 0 ((bn : Int) - 1) = (q : Int) := ⟨(restV m0 0 ((bn : Int) - 1)).toNat, by omega⟩
  have HRS := Lib.hid (fun w => rest_calls m0 0 ((bn : Int) - 1) (by omega) (by omega) (by omega) hm0 w)
  rw [hkN] at HRS k0 k1
  have hkb : kN < bn := by omega
  have HRK : Hid (∀ q d w, BIn w q kN d (bX.take kN) → Calls Tryz.prog 18 #[.slice q kN d] w fun e w' => ∃ p' c', e = .returned (.tuple #[.agg #[.int .i64 0, .slice p' 0 c'], .int .i64 20]) ∧ Below w.heap.size w w') := Lib.hid fun q d w k => by
    have h1 := read_t k (by rw [List.length_take, RX.out.blen]; omega)
    rw [hbX, read_cut hxr (by rw [← hbX, RX.out.blen]; exact hkb)] at h1
    exact h1.mono fun e w' ⟨p', c', h2, _, h3⟩ => ⟨p', c', h2, h3⟩
  have HKL : Hid (kN = (bX.take kN).length) := Lib.hid (by rw [List.length_take, RX.out.blen]; omega)
  have HRT : Hid (∀ q d w, BIn w q (bX ++ b).length d (bX ++ b) → b ≠ [] → Calls Tryz.prog 18 #[.slice q (bX ++ b).length d] w fun e w' => ∃ p' c', e = .returned (.tuple #[.agg #[.int .i64 0, .slice p' 0 c'], .int .i64 21]) ∧ Below w.heap.size w w') := Lib.hid fun q d w k hb0 => by
    have h1 := read_t k (by rw [List.length_append, RX.out.blen]; omega)
    rw [show readV8 (bX ++ b) = (⟨0, []⟩, 21) by rw [hbX]; exact read_more hxr hb0] at h1
    exact h1.mono fun e w' ⟨p', c', h2, _, h3⟩ => ⟨p', c', h2, h3⟩
  -- the place in the text
  obtain ⟨j0, j1⟩ := restV_in (n := m0) (show (0 : Int) ≤ (sX.size : Int) - 1 by omega)
  obtain ⟨mN, hmN⟩ : ∃ q : Nat, restV m0 0 ((sX.size : Int) - 1) = (q : Int) := ⟨(restV m0 0 ((sX.size : Int) - 1)).toNat, by omega⟩
  have HRM := Lib.hid (fun w => rest_calls m0 0 ((sX.size : Int) - 1) (by omega) (by omega) (by omega) hm0 w)
  rw [hmN] at HRM j0 j1
  have hms : mN < sX.size := by omega
  have hcut := parse_cutoff hxr (m := mN) (by rw [htx, htl]; exact hms)
  rw [htx] at hcut
  have HPZ := Lib.hid (fun w (k : Gl w) => parse_t (l := tx.take mN) (w := w) (by rw [List.length_take]; omega) k)
  obtain ⟨zT, hzT⟩ : ∃ q, (parseV (tx.take mN)).1 = q := ⟨_, rfl⟩
  obtain ⟨zk, hzk⟩ : ∃ q, (parseV (tx.take mN)).2.1 = q := ⟨_, rfl⟩
  obtain ⟨ze, hze⟩ : ∃ q, (parseV (tx.take mN)).2.2 = q := ⟨_, rfl⟩
  obtain ⟨zs, hzs⟩ : ∃ q, zT.snap = q := ⟨_, rfl⟩
  obtain ⟨zn, hzn⟩ : ∃ q, zT.recs.length = q := ⟨_, rfl⟩
  obtain ⟨eb, heb⟩ : ∃ q, decide ((tx.take mN).getLast? = some 10) = q := ⟨_, rfl⟩
  have HEB := Lib.hid heb
  obtain ⟨cn, hcn⟩ : ∃ q, (tx.take mN).count 10 = q := ⟨_, rfl⟩
  have HCN := Lib.hid hcn
  have HZ : Hid ((eb = true ∧ zk = 0 ∧ ze = 0 ∧ (zn : Int) = (cn : Int) - 1) ∨ (eb = false ∧ zk = (cn : Int) + 1 ∧ ze = 2)) := Lib.hid (by
    rcases hcut with ⟨h1, h2, h3⟩ | ⟨h1, h2⟩
    · rw [hzT, hzn, hcn] at h3
      exact .inl ⟨by rw [← heb]; exact decide_eq_true h1, by rw [← hzk, h2], by rw [← hze, h2], h3⟩
    · rw [hcn] at h2
      exact .inr ⟨by rw [← heb]; exact decide_eq_false h1, by rw [← hzk, h2], by rw [← hze, h2]⟩)
  rw [hzT, hzk, hze, hzs, hzn] at HPZ
  obtain ⟨sP, hsP⟩ : ∃ q, S (tx.take mN) = q := ⟨_, rfl⟩
  rw [hsP] at HPZ
  have hsub : ∀ z, (Instr.slice 9 (.string sX) none (some (.int .i64 (mN : Int))) none).run Tryz.prog z = .ok (.string sP) z := fun z => by rw [hsX, ← hsP]; exact run_ssub (by omega) z
  have hcn2 : cn ≤ mN := by rw [← hcn]; exact count_le tx mN
  have hb1 : ((bn : Int) == 0) = false := beq_eq_false_iff_ne.2 (by omega)
  have hb1' : (bn == 0) = false := beq_eq_false_iff_ne.2 (by omega)
  have hs1 : ((sX.size : Int) == 0) = false := beq_eq_false_iff_ne.2 (by omega)
  have hs1' : (sX.size == 0) = false := beq_eq_false_iff_ne.2 (by omega)
  have HSUB := Lib.hid hsub
  have HOB : Hid (∀ q d w, BIw w q bn d bX → Calls Tryz.prog 19 #[.slice q bn d] w fun e w' => ∃ v, e = .returned v ∧ w'.ownsRow w.heap.size 5 1 v bX.length (Lib.byteCells bX) ∧ Below w.heap.size w w') := Lib.hid fun q d w k => own_calls bX q bn d k.1 (by rw [RX.out.blen]; omega) w k.2.1
  have HNS := Lib.hid (And.intro hn1 hb)
  obtain ⟨sn, hsn⟩ : ∃ q, t.snap = q := ⟨_, rfl⟩
  rw [hsn] at HFT ⊢
  have HBB := Lib.hid h2.1
  have hmb : mb ≤ 1048576 := by rw [h2.1]; exact hbl
  clear hg hb ht h2 hrx hxT hbX hsX hxr htx hkN hmN hcut hzT hzk hze hzs hzn heb hcn hsP hsub hsn htl k0 j0 hn1 hbl
  go_enter Tryz.func6, Tryz.ntmps6
  go_upto_region 1 with fail
  refine wp_named fun W0 hW => ?_
  obtain ⟨ba, BW, sW⟩ := box1 hW
  obtain ⟨ga, hga⟩ : ∃ b, w.heap.size = b := ⟨_, rfl⟩
  have HGA := Lib.hid hga
  have Ta := Lib.hid (Ta.out.later BW.out)
  have Qb := Lib.hid (Qb.out.later BW.out)
  have HG := Lib.hid (HG.out.later BW.out)
  rw [hga] at ba sW ⊢
  clear hW hga sW
  go_upto_region 4 with ((go_at_call 9; refine (alive_calls _ HG.out).mono ?_; rintro e W1 ⟨rfl, k1⟩))
  have ba := Lib.hid (ba.out.later k1 ba.out.lt)
  have Ta := Lib.hid (Ta.out.later k1)
  have Qb := Lib.hid (Qb.out.later k1)
  have HG := Lib.hid (HG.out.later k1)
  have BW := keep BW k1
  clear k1
  have HGL := Lib.hid ba.out.lt
  have xa0 : W1.cell? ⟨ga, 0, none⟩ = some (.int .i64 sn) := ba.out.cell _
  have xa1 : W1.cell? ⟨ga, 1, none⟩ = some (.slice p n c) := ba.out.cell _
  have fa : ∀ z, Below W1.heap.size W1 z → z.frozen? ⟨ga, 0, none⟩ = false ∧ z.frozen? ⟨ga, 1, none⟩ = false ∧ z.cell? ⟨ga, 0, none⟩ = some (.int .i64 sn) ∧ z.cell? ⟨ga, 1, none⟩ = some (.slice p n c) := fun z hz => ⟨(ba.out.later hz ba.out.lt).frozen 0, (ba.out.later hz ba.out.lt).frozen 1, (ba.out.later hz ba.out.lt).cell 0, (ba.out.later hz ba.out.lt).cell 1⟩
  go_upto_region 5 with (go_at_call 25; refine (HFT.out _ _ _ Ta.out).mono ?_; rintro e V2 ⟨v, ds, rfl, hTO, k5⟩; obtain ⟨px, cx, rfl, _, _, _⟩ := hTO.rat; obtain ⟨fa0, fa1, ya0, ya1⟩ := fa _ k5)
  refine wp_named fun W2 hW2 => ?_
  have hfr : Fr (fun k => k = ga) V2 W2 := by rw [hW2]; exact fr_set.trans fr_set
  have ba : Hid (Blk W2 ga 24 #[.int .i64 xs, .slice px xT.recs.length cx]) := Lib.hid (by rw [hW2]; exact ((ba.out.later k5 ba.out.lt).set_ 0 _).set_ 1 _)
  have hTO2 := hTO.fr hfr (fun k hk e => by have := own_ge hTO.own k hk; have := HGL.out; omega) (fun x hx k hk e => by have := (hTO.dlt hx k hk).1; have := HGL.out; omega)
  obtain ⟨px2, cx2, hp2, hTa⟩ := Tin.of hTO2
  injection hp2 with hp3 _ hp4
  subst hp3
  subst hp4
  rw [RX.out.len] at ba hTa ⊢
  have Ta := Lib.hid hTa
  have hk6 : Below w.heap.size w W2 := (BW.out.trans (k5.mono BW.out.size)).trans (hfr.below (fun k hk e => by have := HGA.out; omega) (by have := HGA.out; have := BW.out.size; have := k5.size; omega))
  have hk7 : Below ga W1 W2 := (k5.mono (by have := HGL.out; omega)).trans (hfr.below (fun k hk e => by omega) (by have := HGL.out; have := k5.size; omega))
  have HG := Lib.hid (HG0.out.later hk6)
  have Qb := Lib.hid (Qb0.out.later hk6)
  have BW := Lib.hid hk6
  clear xa0 xa1 fa fa0 fa1 ya0 ya1 hTO hTO2 hTa hfr hW2 k5 hk6 hk7
  have xa0 : W2.cell? ⟨ga, 0, none⟩ = some (.int .i64 xs) := ba.out.cell _
  have xa1 : W2.cell? ⟨ga, 1, none⟩ = some (.slice px xn cx) := ba.out.cell _
  go_upto_region 6 with (first | (go_at_call 11; refine (RX.out.mine _ _ _ Ta.out).mono ?_; rintro e V3 ⟨pm, cm, rfl, hm, k6⟩) | (go_at_call 10; refine (RX.out.build _ _ _ hm).mono ?_; rintro e W3 ⟨q1, d1, rfl, hq1, k7⟩))
  have ba := Lib.hid (ba.out.later (k6.trans (k7.mono k6.size)) ba.out.lt)
  have Ta := Lib.hid (Ta.out.later (k6.trans (k7.mono k6.size)))
  have Qb := Lib.hid (Qb.out.later (k6.trans (k7.mono k6.size)))
  have HG := Lib.hid (HG.out.later (k6.trans (k7.mono k6.size)))
  have BW := keep BW (k6.trans (k7.mono k6.size))
  have Qc := Lib.hid hq1
  clear xa0 xa1 k6 k7 hm hq1
  have xa0 : W3.cell? ⟨ga, 0, none⟩ = some (.int .i64 xs) := ba.out.cell _
  have xa1 : W3.cell? ⟨ga, 1, none⟩ = some (.slice px xn cx) := ba.out.cell _
  go_upto_region 7 with (first | (go_at_call 11; refine (RX.out.mine _ _ _ Ta.out).mono ?_; rintro e V5 ⟨pm, cm, rfl, hm, k6⟩) | (go_at_call 13; refine (RX.out.print _ _ _ hm (HG.out.later k6)).mono ?_; rintro e W5 ⟨rfl, k7⟩))
  have ba := Lib.hid (ba.out.later (k6.trans (k7.mono k6.size)) ba.out.lt)
  have Ta := Lib.hid (Ta.out.later (k6.trans (k7.mono k6.size)))
  have Qb := Lib.hid (Qb.out.later (k6.trans (k7.mono k6.size)))
  have Qc := Lib.hid (Qc.out.later (k6.trans (k7.mono k6.size)))
  have HG := Lib.hid (HG.out.later (k6.trans (k7.mono k6.size)))
  have BW := keep BW (k6.trans (k7.mono k6.size))
  clear xa0 xa1 k6 k7 hm
  clear ba Ta
  go_upto_region 10 with (go_at_call 26; refine (HRS.out _).mono ?_; rintro e w' ⟨rfl, hw'⟩; rw [hw']; clear hw' w')
  have hsl : ∀ z, (Instr.slice 26 (.slice q1 bn d1) none (some (.int .i64 (kN : Int))) none).run Tryz.prog z = .ok (.slice q1 kN d1) z := fun z => run_cutoff2 (by have := Qc.out.2.2.1.1; omega) Qc.out.2.2.1.2 z
  have QK : Hid (BIw W5 q1 kN d1 (bX.take kN)) := Lib.hid ⟨HKL.out, Qc.out.2.1.take kN, by have := Qc.out.2.2.1.1; omega, Qc.out.2.2.1.2⟩
  go_upto_region 11 with (first | (go_at_call 19; refine (own_t QK.out (by rw [← HKL.out]; omega)).mono ?_; rintro e V6 ⟨q2, d2, rfl, hq2, k6⟩) | (go_at_call 18; refine (HRK.out _ _ _ hq2).mono ?_; rintro e V7 ⟨py, cy, rfl, k7⟩))
  have k8 := k6.trans (k7.mono k6.size)
  refine wp_named fun W6 hW6 => ?_
  obtain ⟨bu, hBu⟩ := new_var hW6
  have k9 := k8.trans (hBu.mono k8.size)
  have Qb := Lib.hid (Qb.out.later k9)
  have Qc := Lib.hid (Qc.out.later k9)
  have HG := Lib.hid (HG.out.later k9)
  have BW := keep BW k9
  obtain ⟨gu, hgu⟩ : ∃ g, V7.heap.size = g := ⟨_, rfl⟩
  rw [hgu] at bu ⊢
  have xu1 : W6.cell? ⟨gu, 1, none⟩ = some (.slice py 0 cy) := bu.out.cell _
  clear hW6 hBu k6 k7 k8 k9 hgu hq2 hsl QK bu
  go_upto_region 13 with fail
  clear xu1 hb1 hb1'
  by_cases hb0 : b = []
  · have f0 : decide ((0 : Int) < (mb : Int)) = false := decide_eq_false (by have := HBB.out; rw [hb0] at this; simp at this; omega)
    have f0' : decide (0 < mb) = false := decide_eq_false (by have := HBB.out; rw [hb0] at this; simp at this; omega)
    clear hb0
    go_upto_region 17 with fail
    clear f0 f0'
    clear Qb Qc HRT HOB HRK HRS HKL
    go_upto_region 18 with (go_at_call 26; refine (HRM.out _).mono ?_; rintro e w' ⟨rfl, hw'⟩; rw [hw']; clear hw' w')
    have hcase : (mN = 0 ∧ eb = false) ∨ ∃ m1 c1, mN = m1 + 1 ∧ tx[m1]? = some c1 ∧ eb = decide (c1 = 10) := by
      rcases Nat.eq_zero_or_pos mN with h | h
      · left; refine ⟨h, ?_⟩; rw [← HEB.out, h]; rfl
      · right
        obtain ⟨m1, rfl⟩ : ∃ q, mN = q + 1 := ⟨mN - 1, by omega⟩
        obtain ⟨c1, hc1⟩ : ∃ c, tx[m1]? = some c := ⟨_, List.getElem?_eq_getElem (by rw [HTL.out]; omega)⟩
        refine ⟨m1, c1, rfl, hc1, ?_⟩
        rw [← HEB.out, last_take hc1]
        by_cases h : c1 = 10
        · rw [h]; rfl
        · rw [decide_eq_false h, decide_eq_false fun e => h (Option.some.inj e)]
    rcases hcase with ⟨hz0, hz1⟩ | ⟨m1, c1, hm1, hc1, hz1⟩
    · have f0 : decide ((0 : Int) < (mN : Int)) = false := decide_eq_false (by omega)
      have f0' : decide (0 < mN) = false := decide_eq_false (by omega)
      clear hz0
      go_upto_region 19 with fail
      clear f0 f0'
      subst hz1
      go_upto_region 21 with fail
      go_loop [19, 20] (fun u19 u20 => ∃ k : Nat, k ≤ mN ∧ u20 = .int .i64 (k : Int) ∧ u19 = .int .i64 (1 + (((tx.take k).count 10 : Nat) : Int))) (fun _ u20 => mN - (intOf u20).toNat)
      case atStart => exact ⟨0, Nat.zero_le _, rfl, rfl⟩
      case round =>
        obtain ⟨k, hk, rfl, rfl⟩ := hrel
        have hcl := count_le tx k
        by_cases hlt : k < mN
        · have x1 : decide ((k : Int) < (mN : Int)) = true := decide_eq_true (by omega)
          have x1' : decide (k < mN) = true := decide_eq_true hlt
          obtain ⟨c2, hc2⟩ : ∃ c, tx[k]? = some c := ⟨_, List.getElem?_eq_getElem (by rw [HTL.out]; omega)⟩
          have hix : ∀ z, (Instr.index 9 (.string sX) (.int .i64 (k : Int))).run Tryz.prog z = .ok (.int .u8 (c2.toNat : Int)) z := fun z => by rw [HSX.out]; exact run_sindex hc2 z
          have HST := Lib.hid (count_step hc2)
          obtain ⟨cc, hcc⟩ : ∃ q, (tx.take k).count 10 = q := ⟨_, rfl⟩
          rw [hcc] at HST hcl ⊢
          clear hc2 hcc
          by_cases h10 : c2 = 10
          · have hce : ((c2.toNat : Int) == 10) = true := by rw [byte_ten]; exact decide_eq_true h10
            have HS2 : Hid ((tx.take (k + 1)).count 10 = cc + 1) := Lib.hid (by rw [HST.out, if_pos h10])
            clear h10
            go_wp2
            go_round
            case rel => exact ⟨k + 1, by omega, by go_num, by rw [HS2.out]; go_num⟩
            case measure => simp [intOf]; omega
          · have hce : ((c2.toNat : Int) == 10) = false := by rw [byte_ten]; exact decide_eq_false h10
            have HS2 : Hid ((tx.take (k + 1)).count 10 = cc) := Lib.hid (by rw [HST.out, if_neg h10]; rfl)
            clear h10
            go_wp2
            go_round
            case rel => exact ⟨k + 1, by omega, by go_num, by rw [HS2.out]⟩
            case measure => simp [intOf]; omega
        · obtain rfl : k = mN := by omega
          have x1 : decide ((k : Int) < (k : Int)) = false := decide_eq_false (by omega)
          have x1' : decide (k < k) = false := decide_eq_false (by omega)
          rw [HCN.out] at hcl ⊢
          have hsub := HSUB.out
          clear hlt hk
          go_upto_region 26 with (go_at_call 21; refine (HPZ.out _ HG.out).mono ?_; rintro e V20 ⟨pz, cz, rfl, hTz, k6⟩)
          refine wp_named fun W20 hW20 => ?_
          obtain ⟨bz, hBz⟩ := new_var hW20
          have Tz := Lib.hid (hTz.later hBz)
          obtain ⟨gz, hgz⟩ : ∃ g, V20.heap.size = g := ⟨_, rfl⟩
          rw [hgz] at bz ⊢
          clear hW20 hgz
          have HG := Lib.hid (HG.out.later (k6.trans (hBz.mono k6.size)))
          have BW := keep BW (k6.trans (hBz.mono k6.size))
          clear hBz
          clear k6 hTz hsub x1 x1'
          have xz0 : W20.cell? ⟨gz, 0, none⟩ = some (.int .i64 zs) := bz.out.cell _
          have xz1 : W20.cell? ⟨gz, 1, none⟩ = some (.slice pz zn cz) := bz.out.cell _
          rcases HZ.out with ⟨heb, rfl, rfl, hz⟩ | ⟨heb, rfl, rfl⟩
          · cases heb
          · clear heb
            have g1 : ((cn : Int) + 1 == 1 + (cn : Int)) = true := beq_iff_eq.2 (by omega)
            go_wp2
            go_ret
            exact ⟨rfl, BW.out⟩
    · have f0 : decide ((0 : Int) < (mN : Int)) = true := decide_eq_true (by omega)
      have f0' : decide (0 < mN) = true := decide_eq_true (by omega)
      have hix : ∀ z, (Instr.index 9 (.string sX) (.int .i64 ((mN : Int) - 1))).run Tryz.prog z = .ok (.int .u8 (c1.toNat : Int)) z := fun z => by rw [HSX.out, show (mN : Int) - 1 = (m1 : Int) by omega]; exact run_sindex hc1 z
      have hce : ((c1.toNat : Int) == 10) = eb := by rw [byte_ten, hz1]
      clear hz1 hm1 hc1
      go_upto_region 19 with fail
      clear f0 f0' hix hce
      go_upto_region 21 with fail
      go_loop [19, 20] (fun u19 u20 => ∃ k : Nat, k ≤ mN ∧ u20 = .int .i64 (k : Int) ∧ u19 = .int .i64 (1 + (((tx.take k).count 10 : Nat) : Int))) (fun _ u20 => mN - (intOf u20).toNat)
      case atStart => exact ⟨0, Nat.zero_le _, rfl, rfl⟩
      case round =>
        obtain ⟨k, hk, rfl, rfl⟩ := hrel
        have hcl := count_le tx k
        by_cases hlt : k < mN
        · have x1 : decide ((k : Int) < (mN : Int)) = true := decide_eq_true (by omega)
          have x1' : decide (k < mN) = true := decide_eq_true hlt
          obtain ⟨c2, hc2⟩ : ∃ c, tx[k]? = some c := ⟨_, List.getElem?_eq_getElem (by rw [HTL.out]; omega)⟩
          have hix : ∀ z, (Instr.index 9 (.string sX) (.int .i64 (k : Int))).run Tryz.prog z = .ok (.int .u8 (c2.toNat : Int)) z := fun z => by rw [HSX.out]; exact run_sindex hc2 z
          have HST := Lib.hid (count_step hc2)
          obtain ⟨cc, hcc⟩ : ∃ q, (tx.take k).count 10 = q := ⟨_, rfl⟩
          rw [hcc] at HST hcl ⊢
          clear hc2 hcc
          by_cases h10 : c2 = 10
          · have hce : ((c2.toNat : Int) == 10) = true := by rw [byte_ten]; exact decide_eq_true h10
            have HS2 : Hid ((tx.take (k + 1)).count 10 = cc + 1) := Lib.hid (by rw [HST.out, if_pos h10])
            clear h10
            go_wp2
            go_round
            case rel => exact ⟨k + 1, by omega, by go_num, by rw [HS2.out]; go_num⟩
            case measure => simp [intOf]; omega
          · have hce : ((c2.toNat : Int) == 10) = false := by rw [byte_ten]; exact decide_eq_false h10
            have HS2 : Hid ((tx.take (k + 1)).count 10 = cc) := Lib.hid (by rw [HST.out, if_neg h10]; rfl)
            clear h10
            go_wp2
            go_round
            case rel => exact ⟨k + 1, by omega, by go_num, by rw [HS2.out]⟩
            case measure => simp [intOf]; omega
        · obtain rfl : k = mN := by omega
          have x1 : decide ((k : Int) < (k : Int)) = false := decide_eq_false (by omega)
          have x1' : decide (k < k) = false := decide_eq_false (by omega)
          rw [HCN.out] at hcl ⊢
          have hsub := HSUB.out
          clear hlt hk
          go_upto_region 26 with (go_at_call 21; refine (HPZ.out _ HG.out).mono ?_; rintro e V20 ⟨pz, cz, rfl, hTz, k6⟩)
          refine wp_named fun W20 hW20 => ?_
          obtain ⟨bz, hBz⟩ := new_var hW20
          have Tz := Lib.hid (hTz.later hBz)
          obtain ⟨gz, hgz⟩ : ∃ g, V20.heap.size = g := ⟨_, rfl⟩
          rw [hgz] at bz ⊢
          clear hW20 hgz
          have HG := Lib.hid (HG.out.later (k6.trans (hBz.mono k6.size)))
          have BW := keep BW (k6.trans (hBz.mono k6.size))
          clear hBz
          clear k6 hTz hsub x1 x1'
          have xz0 : W20.cell? ⟨gz, 0, none⟩ = some (.int .i64 zs) := bz.out.cell _
          have xz1 : W20.cell? ⟨gz, 1, none⟩ = some (.slice pz zn cz) := bz.out.cell _
          rcases HZ.out with ⟨heb, rfl, rfl, hz⟩ | ⟨heb, rfl, rfl⟩
          · subst heb
            have g1 : ((zn : Int) == 1 + (cn : Int) - 2) = true := beq_iff_eq.2 (by omega)
            have g1' : ((zn : Int) == (cn : Int) - 1) = true := beq_iff_eq.2 (by omega)
            have g1'' : ((zn : Int) == -1 + (cn : Int)) = true := beq_iff_eq.2 (by omega)
            clear hz
            go_wp2
            go_ret
            exact ⟨rfl, BW.out⟩
          · subst heb
            have g1 : ((cn : Int) + 1 == 1 + (cn : Int)) = true := beq_iff_eq.2 (by omega)
            go_wp2
            go_ret
            exact ⟨rfl, BW.out⟩
  · have hmb0 : 0 < mb := by rw [HBB.out]; exact List.length_pos_iff.2 hb0
    have f0 : decide ((0 : Int) < (mb : Int)) = true := decide_eq_true (by omega)
    have f0' : decide (0 < mb) = true := decide_eq_true hmb0
    have HB0 := Lib.hid hb0
    clear hb0
    obtain ⟨bb, hbb⟩ : ∃ q, bX ++ b = q := ⟨_, rfl⟩
    obtain ⟨bN, hbN⟩ : ∃ q, bb.length = q := ⟨_, rfl⟩
    have HRT := HRT
    rw [hbb, hbN] at HRT
    have HBX := Lib.hid hbb
    have HBN := Lib.hid hbN
    clear hbb hbN
    go_upto_region 15 with (first | (go_at_call 19; refine (HOB.out _ _ _ Qc.out.w).mono ?_; rintro e V8 ⟨v, rfl, hv, k6⟩) | (at_builtin; refine wpList_append_bytes rfl _ _ rfl W6.heap.size v bX rfl hv qb b mb db HBB.out rfl (Qb.out.later k6).2.1 (by rw [RX.out.blen, ← HBB.out]; omega) k6.size ?_; intro v2 V9 hv2 hA2; rw [HBX.out] at hv2; obtain ⟨q3, d3, hv3, hq3⟩ := BIn.of hv2; rw [HBN.out] at hv3 hq3; subst hv3) | (go_at_call 18; refine (HRT.out _ _ _ hq3 HB0.out).mono ?_; rintro e V10 ⟨py, cy, rfl, k7⟩))
    have k8 : Below W6.heap.size W6 V10 := (k6.trans (hA2.below (own_ge hv) k6.size)).trans (k7.mono (by have := k6.size; have := hA2.fr.size; omega))
    refine wp_named fun W7 hW7 => ?_
    obtain ⟨bu, hBu⟩ := new_var hW7
    have k9 := k8.trans (hBu.mono k8.size)
    have Qb := Lib.hid (Qb.out.later k9)
    have Qc := Lib.hid (Qc.out.later k9)
    have HG := Lib.hid (HG.out.later k9)
    have BW := keep BW k9
    obtain ⟨gu, hgu⟩ : ∃ g, V10.heap.size = g := ⟨_, rfl⟩
    rw [hgu] at bu ⊢
    have xu1 : W7.cell? ⟨gu, 1, none⟩ = some (.slice py 0 cy) := bu.out.cell _
    clear hW7 hBu k6 k7 k8 k9 hgu hv hv2 hA2 hq3 bu
    go_upto_region 17 with fail
    clear xu1 f0 f0' hmb0
    clear Qb Qc HRT HOB HRK HRS HKL
    go_upto_region 18 with (go_at_call 26; refine (HRM.out _).mono ?_; rintro e w' ⟨rfl, hw'⟩; rw [hw']; clear hw' w')
    have hcase : (mN = 0 ∧ eb = false) ∨ ∃ m1 c1, mN = m1 + 1 ∧ tx[m1]? = some c1 ∧ eb = decide (c1 = 10) := by
      rcases Nat.eq_zero_or_pos mN with h | h
      · left; refine ⟨h, ?_⟩; rw [← HEB.out, h]; rfl
      · right
        obtain ⟨m1, rfl⟩ : ∃ q, mN = q + 1 := ⟨mN - 1, by omega⟩
        obtain ⟨c1, hc1⟩ : ∃ c, tx[m1]? = some c := ⟨_, List.getElem?_eq_getElem (by rw [HTL.out]; omega)⟩
        refine ⟨m1, c1, rfl, hc1, ?_⟩
        rw [← HEB.out, last_take hc1]
        by_cases h : c1 = 10
        · rw [h]; rfl
        · rw [decide_eq_false h, decide_eq_false fun e => h (Option.some.inj e)]
    rcases hcase with ⟨hz0, hz1⟩ | ⟨m1, c1, hm1, hc1, hz1⟩
    · have f0 : decide ((0 : Int) < (mN : Int)) = false := decide_eq_false (by omega)
      have f0' : decide (0 < mN) = false := decide_eq_false (by omega)
      clear hz0
      go_upto_region 19 with fail
      clear f0 f0'
      subst hz1
      go_upto_region 21 with fail
      go_loop [19, 20] (fun u19 u20 => ∃ k : Nat, k ≤ mN ∧ u20 = .int .i64 (k : Int) ∧ u19 = .int .i64 (1 + (((tx.take k).count 10 : Nat) : Int))) (fun _ u20 => mN - (intOf u20).toNat)
      case atStart => exact ⟨0, Nat.zero_le _, rfl, rfl⟩
      case round =>
        obtain ⟨k, hk, rfl, rfl⟩ := hrel
        have hcl := count_le tx k
        by_cases hlt : k < mN
        · have x1 : decide ((k : Int) < (mN : Int)) = true := decide_eq_true (by omega)
          have x1' : decide (k < mN) = true := decide_eq_true hlt
          obtain ⟨c2, hc2⟩ : ∃ c, tx[k]? = some c := ⟨_, List.getElem?_eq_getElem (by rw [HTL.out]; omega)⟩
          have hix : ∀ z, (Instr.index 9 (.string sX) (.int .i64 (k : Int))).run Tryz.prog z = .ok (.int .u8 (c2.toNat : Int)) z := fun z => by rw [HSX.out]; exact run_sindex hc2 z
          have HST := Lib.hid (count_step hc2)
          obtain ⟨cc, hcc⟩ : ∃ q, (tx.take k).count 10 = q := ⟨_, rfl⟩
          rw [hcc] at HST hcl ⊢
          clear hc2 hcc
          by_cases h10 : c2 = 10
          · have hce : ((c2.toNat : Int) == 10) = true := by rw [byte_ten]; exact decide_eq_true h10
            have HS2 : Hid ((tx.take (k + 1)).count 10 = cc + 1) := Lib.hid (by rw [HST.out, if_pos h10])
            clear h10
            go_wp2
            go_round
            case rel => exact ⟨k + 1, by omega, by go_num, by rw [HS2.out]; go_num⟩
            case measure => simp [intOf]; omega
          · have hce : ((c2.toNat : Int) == 10) = false := by rw [byte_ten]; exact decide_eq_false h10
            have HS2 : Hid ((tx.take (k + 1)).count 10 = cc) := Lib.hid (by rw [HST.out, if_neg h10]; rfl)
            clear h10
            go_wp2
            go_round
            case rel => exact ⟨k + 1, by omega, by go_num, by rw [HS2.out]⟩
            case measure => simp [intOf]; omega
        · obtain rfl : k = mN := by omega
          have x1 : decide ((k : Int) < (k : Int)) = false := decide_eq_false (by omega)
          have x1' : decide (k < k) = false := decide_eq_false (by omega)
          rw [HCN.out] at hcl ⊢
          have hsub := HSUB.out
          clear hlt hk
          go_upto_region 26 with (go_at_call 21; refine (HPZ.out _ HG.out).mono ?_; rintro e V20 ⟨pz, cz, rfl, hTz, k6⟩)
          refine wp_named fun W20 hW20 => ?_
          obtain ⟨bz, hBz⟩ := new_var hW20
          have Tz := Lib.hid (hTz.later hBz)
          obtain ⟨gz, hgz⟩ : ∃ g, V20.heap.size = g := ⟨_, rfl⟩
          rw [hgz] at bz ⊢
          clear hW20 hgz
          have HG := Lib.hid (HG.out.later (k6.trans (hBz.mono k6.size)))
          have BW := keep BW (k6.trans (hBz.mono k6.size))
          clear hBz
          clear k6 hTz hsub x1 x1'
          have xz0 : W20.cell? ⟨gz, 0, none⟩ = some (.int .i64 zs) := bz.out.cell _
          have xz1 : W20.cell? ⟨gz, 1, none⟩ = some (.slice pz zn cz) := bz.out.cell _
          rcases HZ.out with ⟨heb, rfl, rfl, hz⟩ | ⟨heb, rfl, rfl⟩
          · cases heb
          · clear heb
            have g1 : ((cn : Int) + 1 == 1 + (cn : Int)) = true := beq_iff_eq.2 (by omega)
            go_wp2
            go_ret
            exact ⟨rfl, BW.out⟩
    · have f0 : decide ((0 : Int) < (mN : Int)) = true := decide_eq_true (by omega)
      have f0' : decide (0 < mN) = true := decide_eq_true (by omega)
      have hix : ∀ z, (Instr.index 9 (.string sX) (.int .i64 ((mN : Int) - 1))).run Tryz.prog z = .ok (.int .u8 (c1.toNat : Int)) z := fun z => by rw [HSX.out, show (mN : Int) - 1 = (m1 : Int) by omega]; exact run_sindex hc1 z
      have hce : ((c1.toNat : Int) == 10) = eb := by rw [byte_ten, hz1]
      clear hz1 hm1 hc1
      go_upto_region 19 with fail
      clear f0 f0' hix hce
      go_upto_region 21 with fail
      go_loop [19, 20] (fun u19 u20 => ∃ k : Nat, k ≤ mN ∧ u20 = .int .i64 (k : Int) ∧ u19 = .int .i64 (1 + (((tx.take k).count 10 : Nat) : Int))) (fun _ u20 => mN - (intOf u20).toNat)
      case atStart => exact ⟨0, Nat.zero_le _, rfl, rfl⟩
      case round =>
        obtain ⟨k, hk, rfl, rfl⟩ := hrel
        have hcl := count_le tx k
        by_cases hlt : k < mN
        · have x1 : decide ((k : Int) < (mN : Int)) = true := decide_eq_true (by omega)
          have x1' : decide (k < mN) = true := decide_eq_true hlt
          obtain ⟨c2, hc2⟩ : ∃ c, tx[k]? = some c := ⟨_, List.getElem?_eq_getElem (by rw [HTL.out]; omega)⟩
          have hix : ∀ z, (Instr.index 9 (.string sX) (.int .i64 (k : Int))).run Tryz.prog z = .ok (.int .u8 (c2.toNat : Int)) z := fun z => by rw [HSX.out]; exact run_sindex hc2 z
          have HST := Lib.hid (count_step hc2)
          obtain ⟨cc, hcc⟩ : ∃ q, (tx.take k).count 10 = q := ⟨_, rfl⟩
          rw [hcc] at HST hcl ⊢
          clear hc2 hcc
          by_cases h10 : c2 = 10
          · have hce : ((c2.toNat : Int) == 10) = true := by rw [byte_ten]; exact decide_eq_true h10
            have HS2 : Hid ((tx.take (k + 1)).count 10 = cc + 1) := Lib.hid (by rw [HST.out, if_pos h10])
            clear h10
            go_wp2
            go_round
            case rel => exact ⟨k + 1, by omega, by go_num, by rw [HS2.out]; go_num⟩
            case measure => simp [intOf]; omega
          · have hce : ((c2.toNat : Int) == 10) = false := by rw [byte_ten]; exact decide_eq_false h10
            have HS2 : Hid ((tx.take (k + 1)).count 10 = cc) := Lib.hid (by rw [HST.out, if_neg h10]; rfl)
            clear h10
            go_wp2
            go_round
            case rel => exact ⟨k + 1, by omega, by go_num, by rw [HS2.out]⟩
            case measure => simp [intOf]; omega
        · obtain rfl : k = mN := by omega
          have x1 : decide ((k : Int) < (k : Int)) = false := decide_eq_false (by omega)
          have x1' : decide (k < k) = false := decide_eq_false (by omega)
          rw [HCN.out] at hcl ⊢
          have hsub := HSUB.out
          clear hlt hk
          go_upto_region 26 with (go_at_call 21; refine (HPZ.out _ HG.out).mono ?_; rintro e V20 ⟨pz, cz, rfl, hTz, k6⟩)
          refine wp_named fun W20 hW20 => ?_
          obtain ⟨bz, hBz⟩ := new_var hW20
          have Tz := Lib.hid (hTz.later hBz)
          obtain ⟨gz, hgz⟩ : ∃ g, V20.heap.size = g := ⟨_, rfl⟩
          rw [hgz] at bz ⊢
          clear hW20 hgz
          have HG := Lib.hid (HG.out.later (k6.trans (hBz.mono k6.size)))
          have BW := keep BW (k6.trans (hBz.mono k6.size))
          clear hBz
          clear k6 hTz hsub x1 x1'
          have xz0 : W20.cell? ⟨gz, 0, none⟩ = some (.int .i64 zs) := bz.out.cell _
          have xz1 : W20.cell? ⟨gz, 1, none⟩ = some (.slice pz zn cz) := bz.out.cell _
          rcases HZ.out with ⟨heb, rfl, rfl, hz⟩ | ⟨heb, rfl, rfl⟩
          · subst heb
            have g1 : ((zn : Int) == 1 + (cn : Int) - 2) = true := beq_iff_eq.2 (by omega)
            have g1' : ((zn : Int) == (cn : Int) - 1) = true := beq_iff_eq.2 (by omega)
            have g1'' : ((zn : Int) == -1 + (cn : Int)) = true := beq_iff_eq.2 (by omega)
            clear hz
            go_wp2
            go_ret
            exact ⟨rfl, BW.out⟩
          · subst heb
            have g1 : ((cn : Int) + 1 == 1 + (cn : Int)) = true := beq_iff_eq.2 (by omega)
            go_wp2
            go_ret
            exact ⟨rfl, BW.out⟩
end Go.Proofs.YtpciggnanlflkaaGreatDoor.Ad
