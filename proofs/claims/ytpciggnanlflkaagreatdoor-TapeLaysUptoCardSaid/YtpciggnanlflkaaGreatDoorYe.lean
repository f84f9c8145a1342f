/- The walk of TapeLays. Conditions: a tape of at most 1048576 records of at most 1048576 bytes; the library's variables hold what its text lays. -/
import Derived.Test.YtpciggnanlflkaaGreatDoorYd
namespace Go.Proofs.YtpciggnanlflkaaGreatDoor.Ad
set_option linter.unusedVariables false
set_option linter.unusedSimpArgs false
open Go.RowKit Go.Maps W
set_option maxRecDepth 100000 in
set_option maxHeartbeats 8000000 in
theorem lays_calls {t : Tp} (hb : Bnd t) {p : Option Go.Addr} {n c : Nat} (w : World) (h : Tin w p n c t) (hg : Gl w) : Calls Tryz.prog 3 #[.agg #[.int .i64 t.snap, .slice p n c]] w fun e w' => e = .returned (.bool true) ∧ Below w.heap.size w w' := by
  have HT := Lib.hid h
  have HG := Lib.hid hg
  have HMN := Lib.hid (fun p c w (h : Tin w p n c t) => mine_t h hb)
  have HBU := Lib.hid (fun p c w (h : Tin w p n c t) => build_t h)
  have HRB := Lib.hid (fun p c w (h : Tin w p n c t) => rbuild_t h)
  have HPR := Lib.hid (fun p c w (h : Tin w p n c t) (k : Gl w) => print_t h k)
  have HRP := Lib.hid (fun p c w (h : Tin w p n c t) => rprint_t h)
  have HRI := Lib.hid (fun p c w (h : Tin w p n c t) => right_t h)
  have HRR := Lib.hid (fun p c w (h : Tin w p n c t) => rright_t h)
  obtain ⟨bb, hbb⟩ : ∃ q, (buildV t).1 = q := ⟨_, rfl⟩
  obtain ⟨bn, hbn⟩ : ∃ q, bb.length = q := ⟨_, rfl⟩
  obtain ⟨e1, he1⟩ : ∃ q, (buildV t).2 = q := ⟨_, rfl⟩
  obtain ⟨st, hst⟩ : ∃ q, S (printV t).1 = q := ⟨_, rfl⟩
  obtain ⟨e2, he2⟩ : ∃ q, (printV t).2 = q := ⟨_, rfl⟩
  obtain ⟨rv, hrv⟩ : ∃ q, rightV t = q := ⟨_, rfl⟩
  obtain ⟨sn, hsn⟩ : ∃ q, t.snap = q := ⟨_, rfl⟩
  rw [hsn] at HMN HBU HRB HPR HRP HRI HRR ⊢
  rw [hbb, hbn, he1] at HBU HRB
  rw [hst, he2] at HPR HRP
  rw [hrv] at HRI HRR
  clear h hg hbb hbn he1 hst he2 hrv hsn hb
  go_enter Tryz.func3, Tryz.ntmps3
  go_upto_region 1 with fail
  refine wp_named fun W0 hW => ?_
  obtain ⟨bk, B0, sW⟩ := box1 hW
  obtain ⟨b0, hb0⟩ : ∃ b, w.heap.size = b := ⟨_, rfl⟩
  have HB0 := Lib.hid hb0
  rw [hb0] at bk sW ⊢
  have HT := Lib.hid (HT.out.later B0.out)
  have HG := Lib.hid (HG.out.later B0.out)
  clear hW hb0
  have c0 : W0.cell? ⟨b0, 0, none⟩ = some (.int .i64 sn) := bk.out.cell _
  have c1 : W0.cell? ⟨b0, 1, none⟩ = some (.slice p n c) := bk.out.cell _
  go_upto_region 4 with (go_at_call 9; refine (alive_calls _ HG.out).mono ?_; rintro e W1 ⟨rfl, k1⟩)
  have bk := Lib.hid (bk.out.later k1 bk.out.lt)
  have HT := Lib.hid (HT.out.later k1)
  have HG := Lib.hid (HG.out.later k1)
  have B0 := keep B0 k1
  clear c0 c1
  have c0 : W1.cell? ⟨b0, 0, none⟩ = some (.int .i64 sn) := bk.out.cell _
  have c1 : W1.cell? ⟨b0, 1, none⟩ = some (.slice p n c) := bk.out.cell _
  go_upto_region 5 with (first | (go_at_call 11; refine (HMN.out _ _ _ HT.out).mono ?_; rintro e V1 ⟨pm, cm, rfl, hm, k2a⟩) | (go_at_call 10; refine (HBU.out _ _ _ hm).mono ?_; rintro e W2 ⟨q1, d1, rfl, hq1, k2b⟩))
  have bk := Lib.hid (bk.out.later (k2a.trans (k2b.mono k2a.size)) bk.out.lt)
  have HT := Lib.hid (HT.out.later (k2a.trans (k2b.mono k2a.size)))
  have HG := Lib.hid (HG.out.later (k2a.trans (k2b.mono k2a.size)))
  have B0 := keep B0 (k2a.trans (k2b.mono k2a.size))
  have HQ1 := Lib.hid hq1
  clear hm hq1
  clear c0 c1
  have c0 : W2.cell? ⟨b0, 0, none⟩ = some (.int .i64 sn) := bk.out.cell _
  have c1 : W2.cell? ⟨b0, 1, none⟩ = some (.slice p n c) := bk.out.cell _
  go_upto_region 6 with (go_at_call 12; refine (HRB.out _ _ _ HT.out).mono ?_; rintro e W3 ⟨q2, d2, rfl, hq2, k3⟩)
  have bk := Lib.hid (bk.out.later k3 bk.out.lt)
  have HT := Lib.hid (HT.out.later k3)
  have HG := Lib.hid (HG.out.later k3)
  have B0 := keep B0 k3
  have HQ1 := Lib.hid (HQ1.out.later k3)
  have HQ2 := Lib.hid hq2
  clear hq2
  clear c0 c1
  have c0 : W3.cell? ⟨b0, 0, none⟩ = some (.int .i64 sn) := bk.out.cell _
  have c1 : W3.cell? ⟨b0, 1, none⟩ = some (.slice p n c) := bk.out.cell _
  go_upto_region 7 with (first | (go_at_call 11; refine (HMN.out _ _ _ HT.out).mono ?_; rintro e V3 ⟨pm, cm, rfl, hm, k4a⟩) | (go_at_call 13; refine (HPR.out _ _ _ hm (HG.out.later k4a)).mono ?_; rintro e W4 ⟨rfl, k4b⟩))
  have bk := Lib.hid (bk.out.later (k4a.trans (k4b.mono k4a.size)) bk.out.lt)
  have HT := Lib.hid (HT.out.later (k4a.trans (k4b.mono k4a.size)))
  have HG := Lib.hid (HG.out.later (k4a.trans (k4b.mono k4a.size)))
  have B0 := keep B0 (k4a.trans (k4b.mono k4a.size))
  have HQ1 := Lib.hid ((HQ1.out.later k4a).later k4b)
  have HQ2 := Lib.hid ((HQ2.out.later k4a).later k4b)
  clear hm
  clear c0 c1
  have c0 : W4.cell? ⟨b0, 0, none⟩ = some (.int .i64 sn) := bk.out.cell _
  have c1 : W4.cell? ⟨b0, 1, none⟩ = some (.slice p n c) := bk.out.cell _
  go_upto_region 8 with (go_at_call 14; refine (HRP.out _ _ _ HT.out).mono ?_; rintro e W5 ⟨rfl, k5⟩)
  have bk := Lib.hid (bk.out.later k5 bk.out.lt)
  have HT := Lib.hid (HT.out.later k5)
  have HG := Lib.hid (HG.out.later k5)
  have B0 := keep B0 k5
  have HQ1 := Lib.hid (HQ1.out.later k5)
  have HQ2 := Lib.hid (HQ2.out.later k5)
  clear c0 c1
  clear k1 k2a k2b k3 k4a k4b k5
  refine region_T (fun z => Below W5.heap.size W5 z) (fun _ => false) (by kernel_rfl) ?_
  have hS : Below W5.heap.size W5 W5.drew := (Below.refl _ _).drew
  change wpAnyT _ _ _ _ _ _ _ _ _ W5.drew
  generalize W5.drew = Z at hS ⊢
  refine anyT_take 0 (.int .i64 e1) rfl (by kernel_rfl) (by kernel_rfl) (by kernel_rfl) (by kernel_rfl) (fun _ _ _ h => h) rfl (fun w hw => ?_) hS ?_
  · go_simp; try rfl
  simp only [Act.put, List.getElem_toArray, List.getElem_cons_succ, List.getElem_cons_zero, List.setIfInBounds_toArray, List.set_cons_zero, List.set_cons_succ]
  refine anyT_take 1 (.int .i64 e1) rfl (by kernel_rfl) (by kernel_rfl) (by kernel_rfl) (by kernel_rfl) (fun _ _ _ h => h) rfl (fun w hw => ?_) hS ?_
  · go_simp; try rfl
  simp only [Act.put, List.getElem_toArray, List.getElem_cons_succ, List.getElem_cons_zero, List.setIfInBounds_toArray, List.set_cons_zero, List.set_cons_succ]
  refine anyT_take 2 (.bool true) rfl (by kernel_rfl) (by kernel_rfl) (by kernel_rfl) (by kernel_rfl) (fun _ _ _ h => h) rfl (fun w hw => ?_) hS ?_
  · go_simp; try rfl
  simp only [Act.put, List.getElem_toArray, List.getElem_cons_succ, List.getElem_cons_zero, List.setIfInBounds_toArray, List.set_cons_zero, List.set_cons_succ]
  refine anyT_take 3 (.bool true) rfl (by kernel_rfl) (by kernel_rfl) (by kernel_rfl) (by kernel_rfl) (fun _ _ _ h => h) rfl (fun w hw => ?_) hS ?_
  · go_simp; try rfl
  simp only [Act.put, List.getElem_toArray, List.getElem_cons_succ, List.getElem_cons_zero, List.setIfInBounds_toArray, List.set_cons_zero, List.set_cons_succ]
  refine anyT_take 4 (.slice q1 bn d1) rfl (by kernel_rfl) (by kernel_rfl) (by kernel_rfl) (by kernel_rfl) (fun _ _ _ h => h) rfl (fun w hw => ?_) hS ?_
  · go_simp; try rfl
  simp only [Act.put, List.getElem_toArray, List.getElem_cons_succ, List.getElem_cons_zero, List.setIfInBounds_toArray, List.set_cons_zero, List.set_cons_succ]
  refine anyT_take 5 (.slice q2 bn d2) rfl (by kernel_rfl) (by kernel_rfl) (by kernel_rfl) (by kernel_rfl) (fun _ _ _ h => h) rfl (fun w hw => ?_) hS ?_
  · go_simp; try rfl
  simp only [Act.put, List.getElem_toArray, List.getElem_cons_succ, List.getElem_cons_zero, List.setIfInBounds_toArray, List.set_cons_zero, List.set_cons_succ]
  refine anyT_step 6 (by kernel_rfl) rfl rfl ?_
  refine wp_enterG 15 #[.slice q1 bn d1, .slice q2 bn d2] (by first | kernel_rfl | go_simp) ?_
  refine (same_t (HQ1.out.later hS) (HQ2.out.later hS)).mono ?_
  rintro e Z1 ⟨rfl, k6⟩
  have hS1 := hS.trans (k6.mono hS.size)
  refine ⟨_, rfl, .inr hS1, ?_⟩
  simp only [Act.put, List.getElem_toArray, List.getElem_cons_succ, List.getElem_cons_zero, List.setIfInBounds_toArray, List.set_cons_zero, List.set_cons_succ]
  refine anyT_take 7 (.bool true) rfl (by kernel_rfl) (by kernel_rfl) (by kernel_rfl) (by kernel_rfl) (fun _ _ _ h => h) rfl (fun w hw => ?_) hS1 ?_
  · go_simp; try rfl
  simp only [Act.put, List.getElem_toArray, List.getElem_cons_succ, List.getElem_cons_zero, List.setIfInBounds_toArray, List.set_cons_zero, List.set_cons_succ]
  refine anyT_take 8 (.bool true) rfl (by kernel_rfl) (by kernel_rfl) (by kernel_rfl) (by kernel_rfl) (fun _ _ _ h => h) rfl (fun w hw => ?_) hS1 ?_
  · go_simp; try rfl
  simp only [Act.put, List.getElem_toArray, List.getElem_cons_succ, List.getElem_cons_zero, List.setIfInBounds_toArray, List.set_cons_zero, List.set_cons_succ]
  refine anyT_take 9 (.int .i64 e2) rfl (by kernel_rfl) (by kernel_rfl) (by kernel_rfl) (by kernel_rfl) (fun _ _ _ h => h) rfl (fun w hw => ?_) hS1 ?_
  · go_simp; try rfl
  simp only [Act.put, List.getElem_toArray, List.getElem_cons_succ, List.getElem_cons_zero, List.setIfInBounds_toArray, List.set_cons_zero, List.set_cons_succ]
  refine anyT_take 10 (.int .i64 e2) rfl (by kernel_rfl) (by kernel_rfl) (by kernel_rfl) (by kernel_rfl) (fun _ _ _ h => h) rfl (fun w hw => ?_) hS1 ?_
  · go_simp; try rfl
  simp only [Act.put, List.getElem_toArray, List.getElem_cons_succ, List.getElem_cons_zero, List.setIfInBounds_toArray, List.set_cons_zero, List.set_cons_succ]
  refine anyT_take 11 (.bool true) rfl (by kernel_rfl) (by kernel_rfl) (by kernel_rfl) (by kernel_rfl) (fun _ _ _ h => h) rfl (fun w hw => ?_) hS1 ?_
  · go_simp; try rfl
  simp only [Act.put, List.getElem_toArray, List.getElem_cons_succ, List.getElem_cons_zero, List.setIfInBounds_toArray, List.set_cons_zero, List.set_cons_succ]
  refine anyT_take 12 (.bool true) rfl (by kernel_rfl) (by kernel_rfl) (by kernel_rfl) (by kernel_rfl) (fun _ _ _ h => h) rfl (fun w hw => ?_) hS1 ?_
  · go_simp; try rfl
  simp only [Act.put, List.getElem_toArray, List.getElem_cons_succ, List.getElem_cons_zero, List.setIfInBounds_toArray, List.set_cons_zero, List.set_cons_succ]
  refine anyT_take 13 (.bool true) rfl (by kernel_rfl) (by kernel_rfl) (by kernel_rfl) (by kernel_rfl) (fun _ _ _ h => h) rfl (fun w hw => ?_) hS1 ?_
  · go_simp; try rfl
  simp only [Act.put, List.getElem_toArray, List.getElem_cons_succ, List.getElem_cons_zero, List.setIfInBounds_toArray, List.set_cons_zero, List.set_cons_succ]
  refine anyT_take 14 (.string st) rfl (by kernel_rfl) (by kernel_rfl) (by kernel_rfl) (by kernel_rfl) (fun _ _ _ h => h) rfl (fun w hw => ?_) hS1 ?_
  · go_simp; try rfl
  simp only [Act.put, List.getElem_toArray, List.getElem_cons_succ, List.getElem_cons_zero, List.setIfInBounds_toArray, List.set_cons_zero, List.set_cons_succ]
  refine anyT_take 15 (.string st) rfl (by kernel_rfl) (by kernel_rfl) (by kernel_rfl) (by kernel_rfl) (fun _ _ _ h => h) rfl (fun w hw => ?_) hS1 ?_
  · go_simp; try rfl
  simp only [Act.put, List.getElem_toArray, List.getElem_cons_succ, List.getElem_cons_zero, List.setIfInBounds_toArray, List.set_cons_zero, List.set_cons_succ]
  refine anyT_take 16 (.bool true) rfl (by kernel_rfl) (by kernel_rfl) (by kernel_rfl) (by kernel_rfl) (fun _ _ _ h => h) rfl (fun w hw => ?_) hS1 ?_
  · go_simp; try rfl
  simp only [Act.put, List.getElem_toArray, List.getElem_cons_succ, List.getElem_cons_zero, List.setIfInBounds_toArray, List.set_cons_zero, List.set_cons_succ]
  refine anyT_take 17 (.bool true) rfl (by kernel_rfl) (by kernel_rfl) (by kernel_rfl) (by kernel_rfl) (fun _ _ _ h => h) rfl (fun w hw => ?_) hS1 ?_
  · go_simp; try rfl
  simp only [Act.put, List.getElem_toArray, List.getElem_cons_succ, List.getElem_cons_zero, List.setIfInBounds_toArray, List.set_cons_zero, List.set_cons_succ]
  refine anyT_take 18 (.bool true) rfl (by kernel_rfl) (by kernel_rfl) (by kernel_rfl) (by kernel_rfl) (fun _ _ _ h => h) rfl (fun w hw => ?_) hS1 ?_
  · go_simp; try rfl
  simp only [Act.put, List.getElem_toArray, List.getElem_cons_succ, List.getElem_cons_zero, List.setIfInBounds_toArray, List.set_cons_zero, List.set_cons_succ]
  refine anyT_take 19 (.agg #[.int .i64 sn, .slice p n c]) rfl (by kernel_rfl) (by kernel_rfl) (by kernel_rfl) (by kernel_rfl) (fun _ _ _ h => h) rfl (fun w hw => ?_) hS1 ?_
  · have c0 : w.cell? ⟨b0, 0, none⟩ = some (.int .i64 sn) := (bk.out.later hw bk.out.lt).cell _; have c1 : w.cell? ⟨b0, 1, none⟩ = some (.slice p n c) := (bk.out.later hw bk.out.lt).cell _; go_simp; try rfl
  simp only [Act.put, List.getElem_toArray, List.getElem_cons_succ, List.getElem_cons_zero, List.setIfInBounds_toArray, List.set_cons_zero, List.set_cons_succ]
  refine anyT_take 22 (.agg #[.int .i64 sn, .slice p n c]) rfl (by kernel_rfl) (by kernel_rfl) (by kernel_rfl) (by kernel_rfl) (fun _ _ _ h => h) rfl (fun w hw => ?_) hS1 ?_
  · have c0 : w.cell? ⟨b0, 0, none⟩ = some (.int .i64 sn) := (bk.out.later hw bk.out.lt).cell _; have c1 : w.cell? ⟨b0, 1, none⟩ = some (.slice p n c) := (bk.out.later hw bk.out.lt).cell _; go_simp; try rfl
  simp only [Act.put, List.getElem_toArray, List.getElem_cons_succ, List.getElem_cons_zero, List.setIfInBounds_toArray, List.set_cons_zero, List.set_cons_succ]
  refine anyT_step 20 (by kernel_rfl) rfl rfl ?_
  refine wp_enterG 11 #[.agg #[.int .i64 sn, .slice p n c]] (by first | kernel_rfl | go_simp) ?_
  refine (HMN.out _ _ _ (HT.out.later hS1)).mono ?_
  rintro e Z2 ⟨pm, cm, rfl, hm, k7⟩
  have hS2 := hS1.trans (k7.mono hS1.size)
  refine ⟨_, rfl, .inr hS2, ?_⟩
  simp only [Act.put, List.getElem_toArray, List.getElem_cons_succ, List.getElem_cons_zero, List.setIfInBounds_toArray, List.set_cons_zero, List.set_cons_succ]
  refine anyT_step 21 (by kernel_rfl) rfl rfl ?_
  refine wp_enterG 16 #[.agg #[.int .i64 sn, .slice pm n cm]] (by first | kernel_rfl | go_simp) ?_
  refine (HRI.out _ _ _ hm).mono ?_
  rintro e Z3 ⟨rfl, k8⟩
  have hS3 := hS2.trans (k8.mono hS2.size)
  refine ⟨_, rfl, .inr hS3, ?_⟩
  simp only [Act.put, List.getElem_toArray, List.getElem_cons_succ, List.getElem_cons_zero, List.setIfInBounds_toArray, List.set_cons_zero, List.set_cons_succ]
  refine anyT_step 23 (by kernel_rfl) rfl rfl ?_
  refine wp_enterG 17 #[.agg #[.int .i64 sn, .slice p n c]] (by first | kernel_rfl | go_simp) ?_
  refine (HRR.out _ _ _ (HT.out.later hS3)).mono ?_
  rintro e Z4 ⟨rfl, k9⟩
  have hS4 := hS3.trans (k9.mono hS3.size)
  refine ⟨_, rfl, .inr hS4, ?_⟩
  simp only [Act.put, List.getElem_toArray, List.getElem_cons_succ, List.getElem_cons_zero, List.setIfInBounds_toArray, List.set_cons_zero, List.set_cons_succ]
  refine anyT_take 24 (.bool true) rfl (by kernel_rfl) (by kernel_rfl) (by kernel_rfl) (by kernel_rfl) (fun _ _ _ h => h) rfl (fun w hw => ?_) hS4 ?_
  · go_simp; try rfl
  simp only [Act.put, List.getElem_toArray, List.getElem_cons_succ, List.getElem_cons_zero, List.setIfInBounds_toArray, List.set_cons_zero, List.set_cons_succ]
  refine anyT_take 25 (.bool true) rfl (by kernel_rfl) (by kernel_rfl) (by kernel_rfl) (by kernel_rfl) (fun _ _ _ h => h) rfl (fun w hw => ?_) hS4 ?_
  · go_simp; try rfl
  simp only [Act.put, List.getElem_toArray, List.getElem_cons_succ, List.getElem_cons_zero, List.setIfInBounds_toArray, List.set_cons_zero, List.set_cons_succ]
  refine anyT_take 26 (.bool true) rfl (by kernel_rfl) (by kernel_rfl) (by kernel_rfl) (by kernel_rfl) (fun _ _ _ h => h) rfl (fun w hw => ?_) hS4 ?_
  · go_simp; try rfl
  simp only [Act.put, List.getElem_toArray, List.getElem_cons_succ, List.getElem_cons_zero, List.setIfInBounds_toArray, List.set_cons_zero, List.set_cons_succ]
  refine anyT_done (by kernel_rfl) ?_
  go_wp2
  go_ret
  exact ⟨rfl, by rw [← HB0.out] at *; exact (keep B0 hS4).out⟩
end Go.Proofs.YtpciggnanlflkaaGreatDoor.Ad
