/- The walk of TapeBack. Conditions: at most 1048576 records, bytes, letters; numbers within 64 bits; the library's variables hold what its text lays. -/
import Derived.Test.YtpciggnanlflkaaGreatDoorZe
namespace Go.Proofs.YtpciggnanlflkaaGreatDoor.Ad
set_option linter.unusedVariables false
set_option linter.unusedSimpArgs false
open Go.RowKit Go.Maps W
set_option maxRecDepth 100000 in
set_option maxHeartbeats 16000000 in
theorem back_calls {t : Tp} (ht : t.wf) (hb : Bnd t) {p : Option Go.Addr} {n c : Nat} {qb : Option Go.Addr} {mb db : Nat} {b l : List UInt8} (hbl : b.length ≤ 1048576) (hll : l.length ≤ 1048576) (w : World) (h : Tin w p n c t) (h2 : BIw w qb mb db b) (hg : Gl w) :
    Calls Tryz.prog 5 #[.agg #[.int .i64 t.snap, .slice p n c], .slice qb mb db, .string (S l)] w fun e w' => e = .returned (.bool true) ∧ Below w.heap.size w w' := by
  have Ta := Lib.hid h
  have Qb := Lib.hid h2
  have HG := Lib.hid hg
  have hn : n ≤ 1048576 := by rw [h.1]; exact hb.1
  have HMN := Lib.hid (fun p c w (h : Tin w p n c t) => mine_t h hb)
  have HRI := Lib.hid (fun p c w (h : Tin w p n c t) => right_t h)
  have HLR := Lib.hid (fun p c w (h : Tin w p n c t) => lright_t h (by omega))
  have HFT := Lib.hid (fun p c w (h : Tin w p n c t) => fit_t ht h hb)
  obtain ⟨xs, xn, bn, bX, sX, hrx, hq1, hq2⟩ := rt_letters (fit_right t)
  clear hq1 hq2
  have RX := Lib.hid hrx
  obtain ⟨xT, hxT⟩ : ∃ q, fitV t = q := ⟨_, rfl⟩
  rw [hxT] at RX HFT
  rw [RX.out.snap] at HFT
  obtain ⟨rv, hrv⟩ : ∃ q, rightV t = q := ⟨_, rfl⟩
  rw [hrv] at HRI HLR
  obtain ⟨sn, hsn⟩ : ∃ q, t.snap = q := ⟨_, rfl⟩
  rw [hsn] at HMN HRI HLR HFT ⊢
  have HBI := Lib.hid (read_is b)
  have HSI := Lib.hid (parse_two l)
  have HRB := Lib.hid (fun q d w (k : BIn w q mb d b) => read_t k (by omega))
  have HPS := Lib.hid (fun w (k : Gl w) => parse_t (l := l) (w := w) (by omega) k)
  obtain ⟨wT, hwT⟩ : ∃ q, (parseV l).1 = q := ⟨_, rfl⟩
  obtain ⟨wk, hwk⟩ : ∃ q, (parseV l).2.1 = q := ⟨_, rfl⟩
  obtain ⟨we, hwe⟩ : ∃ q, (parseV l).2.2 = q := ⟨_, rfl⟩
  rw [hwT, hwk, hwe] at HSI HPS
  obtain ⟨ws, hws⟩ : ∃ q, wT.snap = q := ⟨_, rfl⟩
  obtain ⟨wn, hwn⟩ : ∃ q, wT.recs.length = q := ⟨_, rfl⟩
  have HWS := Lib.hid hws
  have HWN := Lib.hid hwn
  rw [hws, hwn] at HPS
  have hmb : mb ≤ 1048576 := by rw [h2.1]; exact hbl
  have HOWB := Lib.hid (fun q d w (k : BIw w q mb d b) => own_t k (by omega))
  clear h hg hb ht h2 hrx hxT hrv hsn hwT hwk hwe hws hwn
  go_enter Tryz.func5, Tryz.ntmps5
  go_upto_region 1 with fail
  refine wp_named fun W0 hW => ?_
  obtain ⟨ba, BW, sW⟩ := box1 hW
  obtain ⟨ga, hga⟩ : ∃ b, w.heap.size = b := ⟨_, rfl⟩
  have HGA := Lib.hid hga
  have Ta := Lib.hid (Ta.out.later BW.out)
  have Qb := Lib.hid (Qb.out.later BW.out)
  have HG := Lib.hid (HG.out.later BW.out)
  rw [hga] at ba sW ⊢
  clear hW hga sW
  go_upto_region 4 with ((go_at_call 9; refine (alive_calls _ HG.out).mono ?_; rintro e W1 ⟨rfl, k1⟩))
  have ba := Lib.hid (ba.out.later k1 ba.out.lt)
  have Ta := Lib.hid (Ta.out.later k1)
  have Qb := Lib.hid (Qb.out.later k1)
  have HG := Lib.hid (HG.out.later k1)
  have BW := keep BW k1
  clear k1
  refine region_T (fun z => Below W1.heap.size W1 z) (fun _ => false) (by kernel_rfl) ?_
  have hS : Below W1.heap.size W1 W1.drew := (Below.refl _ _).drew
  change wpAnyT _ _ _ _ _ _ _ _ _ W1.drew
  generalize W1.drew = Z at hS ⊢
  refine anyT_take 0 (.agg #[.int .i64 sn, .slice p n c]) rfl (by kernel_rfl) (by kernel_rfl) (by kernel_rfl) (by kernel_rfl) (fun _ _ _ h => h) rfl (fun w hw => ?_) hS ?_
  · have c0 : w.cell? ⟨ga, 0, none⟩ = some (.int .i64 sn) := (ba.out.later hw ba.out.lt).cell _; have c1 : w.cell? ⟨ga, 1, none⟩ = some (.slice p n c) := (ba.out.later hw ba.out.lt).cell _; go_simp; try rfl
  simp only [Act.put, List.getElem_toArray, List.getElem_cons_succ, List.getElem_cons_zero, List.setIfInBounds_toArray, List.set_cons_zero, List.set_cons_succ]
  refine anyT_take 3 (.agg #[.int .i64 sn, .slice p n c]) rfl (by kernel_rfl) (by kernel_rfl) (by kernel_rfl) (by kernel_rfl) (fun _ _ _ h => h) rfl (fun w hw => ?_) hS ?_
  · have c0 : w.cell? ⟨ga, 0, none⟩ = some (.int .i64 sn) := (ba.out.later hw ba.out.lt).cell _; have c1 : w.cell? ⟨ga, 1, none⟩ = some (.slice p n c) := (ba.out.later hw ba.out.lt).cell _; go_simp; try rfl
  simp only [Act.put, List.getElem_toArray, List.getElem_cons_succ, List.getElem_cons_zero, List.setIfInBounds_toArray, List.set_cons_zero, List.set_cons_succ]
  refine anyT_step 1 (by kernel_rfl) rfl rfl ?_
  refine wp_enterG 11 #[.agg #[.int .i64 sn, .slice p n c]] (by first | kernel_rfl | go_simp) ?_
  refine (HMN.out _ _ _ (Ta.out.later hS)).mono ?_
  rintro e Z1 ⟨pm, cm, rfl, hm, k2⟩
  have hS1 := hS.trans (k2.mono hS.size)
  refine ⟨_, rfl, .inr hS1, ?_⟩
  simp only [Act.put, List.getElem_toArray, List.getElem_cons_succ, List.getElem_cons_zero, List.setIfInBounds_toArray, List.set_cons_zero, List.set_cons_succ]
  refine anyT_step 2 (by kernel_rfl) rfl rfl ?_
  refine wp_enterG 16 #[.agg #[.int .i64 sn, .slice pm n cm]] (by first | kernel_rfl | go_simp) ?_
  refine (HRI.out _ _ _ hm).mono ?_
  rintro e Z2 ⟨rfl, k3⟩
  have hS2 := hS1.trans (k3.mono hS1.size)
  refine ⟨_, rfl, .inr hS2, ?_⟩
  simp only [Act.put, List.getElem_toArray, List.getElem_cons_succ, List.getElem_cons_zero, List.setIfInBounds_toArray, List.set_cons_zero, List.set_cons_succ]
  refine anyT_step 4 (by kernel_rfl) rfl rfl ?_
  refine wp_enterG 24 #[.agg #[.int .i64 sn, .slice p n c]] (by first | kernel_rfl | go_simp) ?_
  refine (HLR.out _ _ _ (Ta.out.later hS2)).mono ?_
  rintro e Z3 ⟨rfl, k4⟩
  have hS3 := hS2.trans (k4.mono hS2.size)
  refine ⟨_, rfl, .inr hS3, ?_⟩
  simp only [Act.put, List.getElem_toArray, List.getElem_cons_succ, List.getElem_cons_zero, List.setIfInBounds_toArray, List.set_cons_zero, List.set_cons_succ]
  refine anyT_take 5 (.bool false) rfl (by kernel_rfl) (by kernel_rfl) (by kernel_rfl) (by kernel_rfl) (fun _ _ _ h => h) rfl (fun w hw => ?_) hS3 ?_
  · cases rv <;> (go_simp; try rfl)
  simp only [Act.put, List.getElem_toArray, List.getElem_cons_succ, List.getElem_cons_zero, List.setIfInBounds_toArray, List.set_cons_zero, List.set_cons_succ]
  refine anyT_done (by kernel_rfl) ?_
  have hS4 : Below W1.heap.size W1 Z3 := hS3
  have ba := Lib.hid (ba.out.later hS4 ba.out.lt)
  have Ta := Lib.hid (Ta.out.later hS4)
  have Qb := Lib.hid (Qb.out.later hS4)
  have HG := Lib.hid (HG.out.later hS4)
  have BW := keep BW hS4
  clear hS hS1 hS2 hS3 hS4 hm k2 k3 k4
  have xa0 : Z3.cell? ⟨ga, 0, none⟩ = some (.int .i64 sn) := ba.out.cell _
  have xa1 : Z3.cell? ⟨ga, 1, none⟩ = some (.slice p n c) := ba.out.cell _
  go_upto_region 7 with ((go_at_call 25; refine (HFT.out _ _ _ Ta.out).mono ?_; rintro e V2 ⟨px, nx, cx, rfl, hnx, hTx, k5⟩; obtain rfl : nx = xn := hTx.1.trans RX.out.len))
  clear xa0 xa1
  refine wp_named fun W2 hW2 => ?_
  obtain ⟨bx, hBx⟩ := new_var hW2
  have Tx := Lib.hid (hTx.later hBx)
  obtain ⟨gx, hgx⟩ : ∃ g, V2.heap.size = g := ⟨_, rfl⟩
  rw [hgx] at bx ⊢
  clear hW2 hgx
  have ba := Lib.hid (ba.out.later (k5.trans (hBx.mono k5.size)) ba.out.lt)
  have Ta := Lib.hid (Ta.out.later (k5.trans (hBx.mono k5.size)))
  have Qb := Lib.hid (Qb.out.later (k5.trans (hBx.mono k5.size)))
  have HG := Lib.hid (HG.out.later (k5.trans (hBx.mono k5.size)))
  have BW := keep BW (k5.trans (hBx.mono k5.size))
  clear hBx
  clear k5 hTx
  have xx0 : W2.cell? ⟨gx, 0, none⟩ = some (.int .i64 xs) := bx.out.cell _
  have xx1 : W2.cell? ⟨gx, 1, none⟩ = some (.slice px nx cx) := bx.out.cell _
  go_upto_region 8 with (first | (go_at_call 11; refine (RX.out.mine _ _ _ Tx.out).mono ?_; rintro e V3 ⟨pm, cm, rfl, hm, k6⟩) | (go_at_call 10; refine (RX.out.build _ _ _ hm).mono ?_; rintro e W3 ⟨q1, d1, rfl, hq1, k7⟩))
  have ba := Lib.hid (ba.out.later (k6.trans (k7.mono k6.size)) ba.out.lt)
  have Ta := Lib.hid (Ta.out.later (k6.trans (k7.mono k6.size)))
  have bx := Lib.hid (bx.out.later (k6.trans (k7.mono k6.size)) bx.out.lt)
  have Tx := Lib.hid (Tx.out.later (k6.trans (k7.mono k6.size)))
  have Qb := Lib.hid (Qb.out.later (k6.trans (k7.mono k6.size)))
  have HG := Lib.hid (HG.out.later (k6.trans (k7.mono k6.size)))
  have BW := keep BW (k6.trans (k7.mono k6.size))
  have Qc := Lib.hid hq1
  clear xx0 xx1 k6 k7 hm hq1
  go_upto_region 9 with (first | (go_at_call 19; refine (own_t Qc.out.w (by rw [RX.out.blen]; have := RX.out.bsmall; omega)).mono ?_; rintro e V3 ⟨q2, d2, rfl, hq2, k6⟩) | (go_at_call 18; refine (RX.out.read _ _ _ hq2).mono ?_; rintro e V4 ⟨py, cy, rfl, hTy, k7⟩))
  have k8 := k6.trans (k7.mono k6.size)
  refine wp_named fun W4 hW4 => ?_
  obtain ⟨br, hBr⟩ := new_var hW4
  have Tr := Lib.hid (hTy.later hBr)
  obtain ⟨gr, hgr⟩ : ∃ g, V4.heap.size = g := ⟨_, rfl⟩
  rw [hgr] at br ⊢
  clear hW4 hgr
  have ba := Lib.hid (ba.out.later (k8.trans (hBr.mono k8.size)) ba.out.lt)
  have Ta := Lib.hid (Ta.out.later (k8.trans (hBr.mono k8.size)))
  have bx := Lib.hid (bx.out.later (k8.trans (hBr.mono k8.size)) bx.out.lt)
  have Tx := Lib.hid (Tx.out.later (k8.trans (hBr.mono k8.size)))
  have Qb := Lib.hid (Qb.out.later (k8.trans (hBr.mono k8.size)))
  have Qc := Lib.hid (Qc.out.later (k8.trans (hBr.mono k8.size)))
  have HG := Lib.hid (HG.out.later (k8.trans (hBr.mono k8.size)))
  have BW := keep BW (k8.trans (hBr.mono k8.size))
  clear hBr
  clear k6 k7 k8 hq2 hTy
  have xx0 : W4.cell? ⟨gx, 0, none⟩ = some (.int .i64 xs) := bx.out.cell _
  have xx1 : W4.cell? ⟨gx, 1, none⟩ = some (.slice px nx cx) := bx.out.cell _
  go_upto_region 10 with (first | (go_at_call 11; refine (RX.out.mine _ _ _ Tx.out).mono ?_; rintro e V5 ⟨pm, cm, rfl, hm, k6⟩) | (go_at_call 13; refine (RX.out.print _ _ _ hm (HG.out.later k6)).mono ?_; rintro e W5 ⟨rfl, k7⟩))
  have ba := Lib.hid (ba.out.later (k6.trans (k7.mono k6.size)) ba.out.lt)
  have Ta := Lib.hid (Ta.out.later (k6.trans (k7.mono k6.size)))
  have bx := Lib.hid (bx.out.later (k6.trans (k7.mono k6.size)) bx.out.lt)
  have Tx := Lib.hid (Tx.out.later (k6.trans (k7.mono k6.size)))
  have br := Lib.hid (br.out.later (k6.trans (k7.mono k6.size)) br.out.lt)
  have Tr := Lib.hid (Tr.out.later (k6.trans (k7.mono k6.size)))
  have Qb := Lib.hid (Qb.out.later (k6.trans (k7.mono k6.size)))
  have Qc := Lib.hid (Qc.out.later (k6.trans (k7.mono k6.size)))
  have HG := Lib.hid (HG.out.later (k6.trans (k7.mono k6.size)))
  have BW := keep BW (k6.trans (k7.mono k6.size))
  clear xx0 xx1 k6 k7 hm
  go_upto_region 11 with ((go_at_call 21; refine (RX.out.parse _ HG.out).mono ?_; rintro e V6 ⟨pz, cz, rfl, hTz, k6⟩))
  refine wp_named fun W6 hW6 => ?_
  obtain ⟨bz, hBz⟩ := new_var hW6
  have Tz := Lib.hid (hTz.later hBz)
  obtain ⟨gz, hgz⟩ : ∃ g, V6.heap.size = g := ⟨_, rfl⟩
  rw [hgz] at bz ⊢
  clear hW6 hgz
  have ba := Lib.hid (ba.out.later (k6.trans (hBz.mono k6.size)) ba.out.lt)
  have Ta := Lib.hid (Ta.out.later (k6.trans (hBz.mono k6.size)))
  have bx := Lib.hid (bx.out.later (k6.trans (hBz.mono k6.size)) bx.out.lt)
  have Tx := Lib.hid (Tx.out.later (k6.trans (hBz.mono k6.size)))
  have br := Lib.hid (br.out.later (k6.trans (hBz.mono k6.size)) br.out.lt)
  have Tr := Lib.hid (Tr.out.later (k6.trans (hBz.mono k6.size)))
  have Qb := Lib.hid (Qb.out.later (k6.trans (hBz.mono k6.size)))
  have Qc := Lib.hid (Qc.out.later (k6.trans (hBz.mono k6.size)))
  have HG := Lib.hid (HG.out.later (k6.trans (hBz.mono k6.size)))
  have BW := keep BW (k6.trans (hBz.mono k6.size))
  clear hBz
  clear k6 hTz
  have xx0 : W6.cell? ⟨gx, 0, none⟩ = some (.int .i64 xs) := bx.out.cell _
  have xx1 : W6.cell? ⟨gx, 1, none⟩ = some (.slice px nx cx) := bx.out.cell _
  have xr0 : W6.cell? ⟨gr, 0, none⟩ = some (.int .i64 xs) := br.out.cell _
  have xr1 : W6.cell? ⟨gr, 1, none⟩ = some (.slice py nx cy) := br.out.cell _
  have xz0 : W6.cell? ⟨gz, 0, none⟩ = some (.int .i64 xs) := bz.out.cell _
  have xz1 : W6.cell? ⟨gz, 1, none⟩ = some (.slice pz nx cz) := bz.out.cell _
  go_upto_region 13 with (first | (go_at_call 23; (with_reducible refine (RX.out.same _ _ _ _ _ Tx.out Tr.out).mono ?_); rintro e V7 ⟨rfl, k6⟩; have xx0 := (k6.cell (World.block_lt_of_cell? _ _ xx0)).trans xx0; have xx1 := (k6.cell (World.block_lt_of_cell? _ _ xx1)).trans xx1; have xz0 := (k6.cell (World.block_lt_of_cell? _ _ xz0)).trans xz0; have xz1 := (k6.cell (World.block_lt_of_cell? _ _ xz1)).trans xz1) | (go_at_call 23; (with_reducible refine (RX.out.same _ _ _ _ _ (Tx.out.later k6) (Tz.out.later k6)).mono ?_); rintro e V8 ⟨rfl, k7⟩; have xx0 := (k7.cell (World.block_lt_of_cell? _ _ xx0)).trans xx0; have xx1 := (k7.cell (World.block_lt_of_cell? _ _ xx1)).trans xx1) | (go_at_call 11; refine (RX.out.mine _ _ _ ((Tx.out.later k6).later k7)).mono ?_; rintro e V9 ⟨pm, cm, rfl, hm, k8⟩) | (go_at_call 16; refine (RX.out.isr _ _ _ hm).mono ?_; rintro e V10 ⟨rfl, k9⟩))
  have ba := Lib.hid (ba.out.later (k6.trans ((k7.trans ((k8.trans (k9.mono k8.size)).mono k7.size)).mono k6.size)) ba.out.lt)
  have Ta := Lib.hid (Ta.out.later (k6.trans ((k7.trans ((k8.trans (k9.mono k8.size)).mono k7.size)).mono k6.size)))
  have bx := Lib.hid (bx.out.later (k6.trans ((k7.trans ((k8.trans (k9.mono k8.size)).mono k7.size)).mono k6.size)) bx.out.lt)
  have Tx := Lib.hid (Tx.out.later (k6.trans ((k7.trans ((k8.trans (k9.mono k8.size)).mono k7.size)).mono k6.size)))
  have br := Lib.hid (br.out.later (k6.trans ((k7.trans ((k8.trans (k9.mono k8.size)).mono k7.size)).mono k6.size)) br.out.lt)
  have Tr := Lib.hid (Tr.out.later (k6.trans ((k7.trans ((k8.trans (k9.mono k8.size)).mono k7.size)).mono k6.size)))
  have bz := Lib.hid (bz.out.later (k6.trans ((k7.trans ((k8.trans (k9.mono k8.size)).mono k7.size)).mono k6.size)) bz.out.lt)
  have Tz := Lib.hid (Tz.out.later (k6.trans ((k7.trans ((k8.trans (k9.mono k8.size)).mono k7.size)).mono k6.size)))
  have Qb := Lib.hid (Qb.out.later (k6.trans ((k7.trans ((k8.trans (k9.mono k8.size)).mono k7.size)).mono k6.size)))
  have Qc := Lib.hid (Qc.out.later (k6.trans ((k7.trans ((k8.trans (k9.mono k8.size)).mono k7.size)).mono k6.size)))
  have HG := Lib.hid (HG.out.later (k6.trans ((k7.trans ((k8.trans (k9.mono k8.size)).mono k7.size)).mono k6.size)))
  have BW := keep BW (k6.trans ((k7.trans ((k8.trans (k9.mono k8.size)).mono k7.size)).mono k6.size))
  clear xx0 xx1 xr0 xr1 xz0 xz1 k6 k7 k8 k9 hm
  clear bx br bz Tx Tr Tz Qc
  go_upto_region 14 with (first | (go_at_call 19; refine (HOWB.out _ _ _ Qb.out).mono ?_; rintro e V11 ⟨q2, d2, rfl, hq2, k6⟩) | (go_at_call 18; refine (HRB.out _ _ _ hq2).mono ?_; rintro e V12 ⟨pv, cv, rfl, hTv, k7⟩))
  have k8 := k6.trans (k7.mono k6.size)
  obtain ⟨vT, hvT⟩ : ∃ q, (readV8 b).1 = q := ⟨_, rfl⟩
  obtain ⟨ve, hve⟩ : ∃ q, (readV8 b).2 = q := ⟨_, rfl⟩
  have HBI := HBI
  rw [hvT, hve] at HBI
  rw [hvT] at hTv
  first | rw [hvT, hve] | simp only [hvT, hve]
  obtain ⟨vs, hvs⟩ : ∃ q, vT.snap = q := ⟨_, rfl⟩
  obtain ⟨vn, hvn⟩ : ∃ q, vT.recs.length = q := ⟨_, rfl⟩
  have HVS := Lib.hid hvs
  have HVN := Lib.hid hvn
  rw [hvn] at hTv
  rw [hvs, hvn]
  refine wp_named fun W7 hW7 => ?_
  obtain ⟨bv, hBv⟩ := new_var hW7
  have Tv := Lib.hid (hTv.later hBv)
  obtain ⟨gv, hgv⟩ : ∃ g, V12.heap.size = g := ⟨_, rfl⟩
  rw [hgv] at bv ⊢
  clear hW7 hgv
  have ba := Lib.hid (ba.out.later (k8.trans (hBv.mono k8.size)) ba.out.lt)
  have Ta := Lib.hid (Ta.out.later (k8.trans (hBv.mono k8.size)))
  have Qb := Lib.hid (Qb.out.later (k8.trans (hBv.mono k8.size)))
  have HG := Lib.hid (HG.out.later (k8.trans (hBv.mono k8.size)))
  have BW := keep BW (k8.trans (hBv.mono k8.size))
  clear hBv
  clear k6 k7 k8 hq2 hTv hvT hve hvs hvn HRB HOWB
  rcases HBI.out with ⟨hv0, hvb, hvr⟩ | ⟨hv0, hvz⟩
  all_goals clear ba Ta
  · subst hv0
    have RV := Lib.hid (Rt.of hvr)
    rw [hvb, HVS.out, HVN.out, ← Qb.out.1] at RV
    clear hvb hvr HBI
    have xv0 : W7.cell? ⟨gv, 0, none⟩ = some (.int .i64 vs) := bv.out.cell _
    have xv1 : W7.cell? ⟨gv, 1, none⟩ = some (.slice pv vn cv) := bv.out.cell _
    go_upto_region 16 with (first | (go_at_call 11; refine (RV.out.mine _ _ _ Tv.out).mono ?_; rintro e V13 ⟨pm, cm, rfl, hm, k6⟩) | (go_at_call 10; refine (RV.out.build _ _ _ hm).mono ?_; rintro e V14 ⟨q3, d3, rfl, hq3, k7⟩))
    have bv := Lib.hid (bv.out.later (k6.trans (k7.mono k6.size)) bv.out.lt)
    have Tv := Lib.hid (Tv.out.later (k6.trans (k7.mono k6.size)))
    have Qb := Lib.hid (Qb.out.later (k6.trans (k7.mono k6.size)))
    have HG := Lib.hid (HG.out.later (k6.trans (k7.mono k6.size)))
    have BW := keep BW (k6.trans (k7.mono k6.size))
    have Qd := Lib.hid hq3
    clear xv0 xv1 k6 k7 hm hq3
    have xv0 : V14.cell? ⟨gv, 0, none⟩ = some (.int .i64 vs) := bv.out.cell _
    have xv1 : V14.cell? ⟨gv, 1, none⟩ = some (.slice pv vn cv) := bv.out.cell _
    go_upto_region 20 with (first | (go_at_call 15; refine (same_b Qd.out.w Qb.out).mono ?_; rintro e V15 ⟨rfl, k6⟩; have xv0 := (k6.cell (World.block_lt_of_cell? _ _ xv0)).trans xv0; have xv1 := (k6.cell (World.block_lt_of_cell? _ _ xv1)).trans xv1) | (go_at_call 24; refine (RV.out.isl _ _ _ (Tv.out.later k6)).mono ?_; rintro e V16 ⟨rfl, k7⟩))
    have bv := Lib.hid (bv.out.later (k6.trans (k7.mono k6.size)) bv.out.lt)
    have Tv := Lib.hid (Tv.out.later (k6.trans (k7.mono k6.size)))
    have Qb := Lib.hid (Qb.out.later (k6.trans (k7.mono k6.size)))
    have Qd := Lib.hid (Qd.out.later (k6.trans (k7.mono k6.size)))
    have HG := Lib.hid (HG.out.later (k6.trans (k7.mono k6.size)))
    have BW := keep BW (k6.trans (k7.mono k6.size))
    clear xv0 xv1 k6 k7
    clear bv Tv Qb Qd RV HVS HVN
    go_upto_region 21 with ((go_at_call 21; refine (HPS.out _ HG.out).mono ?_; rintro e V20 ⟨pw, cw, rfl, hTw, k6⟩))
    refine wp_named fun W20 hW20 => ?_
    obtain ⟨bw, hBw⟩ := new_var hW20
    have Tw := Lib.hid (hTw.later hBw)
    obtain ⟨gw, hgw⟩ : ∃ g, V20.heap.size = g := ⟨_, rfl⟩
    rw [hgw] at bw ⊢
    clear hW20 hgw
    have HG := Lib.hid (HG.out.later (k6.trans (hBw.mono k6.size)))
    have BW := keep BW (k6.trans (hBw.mono k6.size))
    clear hBw
    clear k6 hTw
    rcases HSI.out with ⟨hk0, he0, hpl, hwr⟩ | ⟨hwz, he2, hk1⟩
    · subst hk0
      subst he0
      have RW := Lib.hid (Rt.of hwr)
      rw [hpl, HWS.out, HWN.out] at RW
      clear hpl hwr HSI
      have hse : (S l).toList = (S l).toList := rfl
      obtain ⟨sl, hsl⟩ : ∃ q, S l = q := ⟨_, rfl⟩
      rw [hsl] at RW
      first | rw [hsl] | simp only [hsl]
      clear hsl hse
      have xw0 : W20.cell? ⟨gw, 0, none⟩ = some (.int .i64 ws) := bw.out.cell _
      have xw1 : W20.cell? ⟨gw, 1, none⟩ = some (.slice pw wn cw) := bw.out.cell _
      go_upto_region 23 with (first | (go_at_call 11; refine (RW.out.mine _ _ _ Tw.out).mono ?_; rintro e V21 ⟨pm, cm, rfl, hm, k6⟩) | (go_at_call 13; refine (RW.out.print _ _ _ hm (HG.out.later k6)).mono ?_; rintro e V22 ⟨rfl, k7⟩))
      have bw := Lib.hid (bw.out.later (k6.trans (k7.mono k6.size)) bw.out.lt)
      have Tw := Lib.hid (Tw.out.later (k6.trans (k7.mono k6.size)))
      have HG := Lib.hid (HG.out.later (k6.trans (k7.mono k6.size)))
      have BW := keep BW (k6.trans (k7.mono k6.size))
      clear xw0 xw1 k6 k7 hm
      have xw0 : V22.cell? ⟨gw, 0, none⟩ = some (.int .i64 ws) := bw.out.cell _
      have xw1 : V22.cell? ⟨gw, 1, none⟩ = some (.slice pw wn cw) := bw.out.cell _
      go_wp2_with (go_at_call 24; refine (RW.out.isl _ _ _ Tw.out).mono ?_; rintro e V23 ⟨rfl, k6⟩)
      go_ret
      exact ⟨rfl, (keep BW k6).out⟩
    · have HWZ : Hid (ws = 0 ∧ wn = 0) := Lib.hid ⟨by rw [← HWS.out, hwz], by rw [← HWN.out, hwz]; rfl⟩
      obtain ⟨rfl, rfl⟩ := HWZ.out
      subst he2
      have f1 : decide (1 ≤ wk) = true := decide_eq_true hk1
      clear hwz hk1 HWZ
      have xw0 : W20.cell? ⟨gw, 0, none⟩ = some (.int .i64 0) := bw.out.cell _
      have xw1 : W20.cell? ⟨gw, 1, none⟩ = some (.slice pw 0 cw) := bw.out.cell _
      go_wp2
      go_ret
      exact ⟨rfl, BW.out⟩
  · have HVZ : Hid (vs = 0 ∧ vn = 0) := Lib.hid ⟨by rw [← HVS.out, hvz], by rw [← HVN.out, hvz]; rfl⟩
    obtain ⟨rfl, rfl⟩ := HVZ.out
    have f1 : (ve == 0) = false := beq_eq_false_iff_ne.2 hv0
    clear hv0 hvz HVZ HBI
    have xv0 : W7.cell? ⟨gv, 0, none⟩ = some (.int .i64 0) := bv.out.cell _
    have xv1 : W7.cell? ⟨gv, 1, none⟩ = some (.slice pv 0 cv) := bv.out.cell _
    go_upto_region 20 with fail
    clear xv0 xv1
    clear bv Tv Qb HVS HVN
    go_upto_region 21 with ((go_at_call 21; refine (HPS.out _ HG.out).mono ?_; rintro e V20 ⟨pw, cw, rfl, hTw, k6⟩))
    refine wp_named fun W20 hW20 => ?_
    obtain ⟨bw, hBw⟩ := new_var hW20
    have Tw := Lib.hid (hTw.later hBw)
    obtain ⟨gw, hgw⟩ : ∃ g, V20.heap.size = g := ⟨_, rfl⟩
    rw [hgw] at bw ⊢
    clear hW20 hgw
    have HG := Lib.hid (HG.out.later (k6.trans (hBw.mono k6.size)))
    have BW := keep BW (k6.trans (hBw.mono k6.size))
    clear hBw
    clear k6 hTw
    rcases HSI.out with ⟨hk0, he0, hpl, hwr⟩ | ⟨hwz, he2, hk1⟩
    · subst hk0
      subst he0
      have RW := Lib.hid (Rt.of hwr)
      rw [hpl, HWS.out, HWN.out] at RW
      clear hpl hwr HSI
      have hse : (S l).toList = (S l).toList := rfl
      obtain ⟨sl, hsl⟩ : ∃ q, S l = q := ⟨_, rfl⟩
      rw [hsl] at RW
      first | rw [hsl] | simp only [hsl]
      clear hsl hse
      have xw0 : W20.cell? ⟨gw, 0, none⟩ = some (.int .i64 ws) := bw.out.cell _
      have xw1 : W20.cell? ⟨gw, 1, none⟩ = some (.slice pw wn cw) := bw.out.cell _
      go_upto_region 23 with (first | (go_at_call 11; refine (RW.out.mine _ _ _ Tw.out).mono ?_; rintro e V21 ⟨pm, cm, rfl, hm, k6⟩) | (go_at_call 13; refine (RW.out.print _ _ _ hm (HG.out.later k6)).mono ?_; rintro e V22 ⟨rfl, k7⟩))
      have bw := Lib.hid (bw.out.later (k6.trans (k7.mono k6.size)) bw.out.lt)
      have Tw := Lib.hid (Tw.out.later (k6.trans (k7.mono k6.size)))
      have HG := Lib.hid (HG.out.later (k6.trans (k7.mono k6.size)))
      have BW := keep BW (k6.trans (k7.mono k6.size))
      clear xw0 xw1 k6 k7 hm
      have xw0 : V22.cell? ⟨gw, 0, none⟩ = some (.int .i64 ws) := bw.out.cell _
      have xw1 : V22.cell? ⟨gw, 1, none⟩ = some (.slice pw wn cw) := bw.out.cell _
      go_wp2_with (go_at_call 24; refine (RW.out.isl _ _ _ Tw.out).mono ?_; rintro e V23 ⟨rfl, k6⟩)
      go_ret
      exact ⟨rfl, (keep BW k6).out⟩
    · have HWZ : Hid (ws = 0 ∧ wn = 0) := Lib.hid ⟨by rw [← HWS.out, hwz], by rw [← HWN.out, hwz]; rfl⟩
      obtain ⟨rfl, rfl⟩ := HWZ.out
      subst he2
      have f1 : decide (1 ≤ wk) = true := decide_eq_true hk1
      clear hwz hk1 HWZ
      have xw0 : W20.cell? ⟨gw, 0, none⟩ = some (.int .i64 0) := bw.out.cell _
      have xw1 : W20.cell? ⟨gw, 1, none⟩ = some (.slice pw 0 cw) := bw.out.cell _
      go_wp2
      go_ret
      exact ⟨rfl, BW.out⟩
theorem back_law {t : Tp} (ht : t.wf) (hb : Bnd t) {p : Option Go.Addr} {n c : Nat} {qb : Option Go.Addr} {mb db : Nat} {b : List UInt8} {s : ByteArray} (hbl : b.length ≤ 1048576) (hll : s.data.toList.length ≤ 1048576) (w : World) (h : Tin w p n c t) (h2 : BIw w qb mb db b) (hg : Gl w) :
    Calls Tryz.prog 5 #[.agg #[.int .i64 t.snap, .slice p n c], .slice qb mb db, .string s] w fun e w' => e = .returned (.bool true) ∧ Below w.heap.size w w' := by
  have := back_calls (l := s.data.toList) ht hb hbl hll w h h2 hg
  rwa [S_of] at this
end Go.Proofs.YtpciggnanlflkaaGreatDoor.Ad
