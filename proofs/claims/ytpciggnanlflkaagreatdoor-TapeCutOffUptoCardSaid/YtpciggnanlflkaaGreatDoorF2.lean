/- Contracts of the reference's most and fits. Conditions: none beyond those that each theorem states. Contracts of the reference's Right, number, head. Conditions: none beyond those that each theorem states. Contract of the reference's Build. Conditions: none beyond those that the theorem states. -/
import Derived.Test.YtpciggnanlflkaaGreatDoorXp
namespace Go.Proofs.YtpciggnanlflkaaGreatDoor.Ad
set_option linter.unusedVariables false
set_option linter.unusedSimpArgs false
open Go.RowKit Go.Maps W
set_option maxRecDepth 100000 in
set_option maxHeartbeats 2000000 in
theorem rmost_calls (r : Rec) (snap : Int) (p : Option Go.Addr) (n c : Nat) (pd : Option Go.Addr) (dn cd : Nat) (w : World) : Calls Tryz.prog 49 #[.agg #[.int .i64 snap, .slice p n c], .agg (recC r (.slice pd dn cd)).toArray] w fun e w' => e = .returned (.int .i64 (min r.long snap)) ∧ Below w.heap.size w w' := by
  unfold recC
  go_enter Tryz.func49, Tryz.ntmps49
  go_upto_region 1 with fail
  refine wp_named fun W hW => ?_
  obtain ⟨ba, bb, BW, sW⟩ := box2 hW
  have a0 : W.cell? ⟨w.heap.size, 0, none⟩ = some (.int .i64 snap) := ba.out.cell _
  have c3 : W.cell? ⟨w.heap.size + 1, 3, none⟩ = some (.int .i64 r.long) := bb.out.cell _
  clear hW
  go_wp2
  go_ret
  exact ⟨rfl, BW.out⟩
set_option maxRecDepth 100000 in
set_option maxHeartbeats 4000000 in
theorem fits_calls (r : Rec) (pd : Option Go.Addr) (cd : Nat) (snap frm : Int) (p : Option Go.Addr) (n c : Nat) (w : World) : Calls Tryz.prog 44 #[.agg #[.int .i64 snap, .slice p n c], .agg (recC r (.slice pd r.data.length cd)).toArray, .int .i64 frm] w fun e w' => e = .returned (.bool (mayV r snap frm)) ∧ Below w.heap.size w w' := by
  have HMO := Lib.hid (fun w => rmost_calls r snap p n c pd r.data.length cd w)
  unfold recC at HMO ⊢
  obtain ⟨mv, hmv⟩ : ∃ q, mayV r snap frm = q := ⟨_, rfl⟩
  have HMV : Hid (mv = decide (frm ≤ r.tk ∧ r.tk ≤ 1099511627776 ∧ 0 ≤ r.node ∧ r.node < 16 ∧ 0 ≤ r.long ∧ r.long ≤ 65575 ∧ (r.data.length : Int) = min r.long snap)) := Lib.hid (by rw [← hmv]; rfl)
  rw [hmv]
  clear hmv
  obtain ⟨tk, nd, ou, lg, dt⟩ := r
  simp only at HMO HMV ⊢
  obtain ⟨dn, hdn⟩ : ∃ q, dt.length = q := ⟨_, rfl⟩
  rw [hdn] at HMO HMV ⊢
  clear hdn
  obtain ⟨mn, hmn⟩ : ∃ q, min lg snap = q := ⟨_, rfl⟩
  rw [hmn] at HMO HMV
  clear hmn
  by_cases g0 : frm ≤ tk
  case neg =>
    have f0 : decide (frm ≤ tk) = false := decide_eq_false g0
    have HM : Hid (mv = false) := Lib.hid (by rw [HMV.out]; exact decide_eq_false fun h => g0 (by omega))
    clear g0 HMV
    go_enter Tryz.func44, Tryz.ntmps44
    go_upto_region 1 with fail
    refine wp_named fun W hW => ?_
    obtain ⟨ba, bb, BW, sW⟩ := box2 hW
    clear hW
    have a0 : ∀ z : Later W, z.val.cell? ⟨w.heap.size, 0, none⟩ = some (.int .i64 snap) := Later.cell (ba.out.cell _)
    have a1 : ∀ z : Later W, z.val.cell? ⟨w.heap.size, 1, none⟩ = some (.slice p n c) := Later.cell (ba.out.cell _)
    have c0 : ∀ z : Later W, z.val.cell? ⟨w.heap.size + 1, 0, none⟩ = some (.int .i64 tk) := Later.cell (bb.out.cell _)
    have c1 : ∀ z : Later W, z.val.cell? ⟨w.heap.size + 1, 1, none⟩ = some (.int .i64 nd) := Later.cell (bb.out.cell _)
    have c2 : ∀ z : Later W, z.val.cell? ⟨w.heap.size + 1, 2, none⟩ = some (.bool ou) := Later.cell (bb.out.cell _)
    have c3 : ∀ z : Later W, z.val.cell? ⟨w.heap.size + 1, 3, none⟩ = some (.int .i64 lg) := Later.cell (bb.out.cell _)
    have c4 : ∀ z : Later W, z.val.cell? ⟨w.heap.size + 1, 4, none⟩ = some (.slice pd dn cd) := Later.cell (bb.out.cell _)
    refine region_later (by kernel_rfl) (by kernel_rfl) ?_
    repeat (first | go_big_quiet_skip | (go_big_quiet_want; first | (go_big_quiet_op; first | go_big_quiet_on | go_big_quiet_call ((go_at_call 49; exact calls_later (HMO.out _)))) | skip))
    refine wpQuiet_nil ?_
    intro z hz
    have BZ := keep BW hz
    clear hz
    go_wp2
    go_ret
    exact ⟨by rw [HM.out]; rfl, BZ.out⟩
  have f0 : decide (frm ≤ tk) = true := decide_eq_true g0
  by_cases g1 : tk ≤ 1099511627776
  case neg =>
    have f1 : decide (tk ≤ 1099511627776) = false := decide_eq_false g1
    have HM : Hid (mv = false) := Lib.hid (by rw [HMV.out]; exact decide_eq_false fun h => g1 (by omega))
    clear g0 g1 HMV
    go_enter Tryz.func44, Tryz.ntmps44
    go_upto_region 1 with fail
    refine wp_named fun W hW => ?_
    obtain ⟨ba, bb, BW, sW⟩ := box2 hW
    clear hW
    have a0 : ∀ z : Later W, z.val.cell? ⟨w.heap.size, 0, none⟩ = some (.int .i64 snap) := Later.cell (ba.out.cell _)
    have a1 : ∀ z : Later W, z.val.cell? ⟨w.heap.size, 1, none⟩ = some (.slice p n c) := Later.cell (ba.out.cell _)
    have c0 : ∀ z : Later W, z.val.cell? ⟨w.heap.size + 1, 0, none⟩ = some (.int .i64 tk) := Later.cell (bb.out.cell _)
    have c1 : ∀ z : Later W, z.val.cell? ⟨w.heap.size + 1, 1, none⟩ = some (.int .i64 nd) := Later.cell (bb.out.cell _)
    have c2 : ∀ z : Later W, z.val.cell? ⟨w.heap.size + 1, 2, none⟩ = some (.bool ou) := Later.cell (bb.out.cell _)
    have c3 : ∀ z : Later W, z.val.cell? ⟨w.heap.size + 1, 3, none⟩ = some (.int .i64 lg) := Later.cell (bb.out.cell _)
    have c4 : ∀ z : Later W, z.val.cell? ⟨w.heap.size + 1, 4, none⟩ = some (.slice pd dn cd) := Later.cell (bb.out.cell _)
    refine region_later (by kernel_rfl) (by kernel_rfl) ?_
    repeat (first | go_big_quiet_skip | (go_big_quiet_want; first | (go_big_quiet_op; first | go_big_quiet_on | go_big_quiet_call ((go_at_call 49; exact calls_later (HMO.out _)))) | skip))
    refine wpQuiet_nil ?_
    intro z hz
    have BZ := keep BW hz
    clear hz
    go_wp2
    go_ret
    exact ⟨by rw [HM.out]; rfl, BZ.out⟩
  have f1 : decide (tk ≤ 1099511627776) = true := decide_eq_true g1
  by_cases g2 : 0 ≤ nd
  case neg =>
    have f2 : decide (0 ≤ nd) = false := decide_eq_false g2
    have HM : Hid (mv = false) := Lib.hid (by rw [HMV.out]; exact decide_eq_false fun h => g2 (by omega))
    clear g0 g1 g2 HMV
    go_enter Tryz.func44, Tryz.ntmps44
    go_upto_region 1 with fail
    refine wp_named fun W hW => ?_
    obtain ⟨ba, bb, BW, sW⟩ := box2 hW
    clear hW
    have a0 : ∀ z : Later W, z.val.cell? ⟨w.heap.size, 0, none⟩ = some (.int .i64 snap) := Later.cell (ba.out.cell _)
    have a1 : ∀ z : Later W, z.val.cell? ⟨w.heap.size, 1, none⟩ = some (.slice p n c) := Later.cell (ba.out.cell _)
    have c0 : ∀ z : Later W, z.val.cell? ⟨w.heap.size + 1, 0, none⟩ = some (.int .i64 tk) := Later.cell (bb.out.cell _)
    have c1 : ∀ z : Later W, z.val.cell? ⟨w.heap.size + 1, 1, none⟩ = some (.int .i64 nd) := Later.cell (bb.out.cell _)
    have c2 : ∀ z : Later W, z.val.cell? ⟨w.heap.size + 1, 2, none⟩ = some (.bool ou) := Later.cell (bb.out.cell _)
    have c3 : ∀ z : Later W, z.val.cell? ⟨w.heap.size + 1, 3, none⟩ = some (.int .i64 lg) := Later.cell (bb.out.cell _)
    have c4 : ∀ z : Later W, z.val.cell? ⟨w.heap.size + 1, 4, none⟩ = some (.slice pd dn cd) := Later.cell (bb.out.cell _)
    refine region_later (by kernel_rfl) (by kernel_rfl) ?_
    repeat (first | go_big_quiet_skip | (go_big_quiet_want; first | (go_big_quiet_op; first | go_big_quiet_on | go_big_quiet_call ((go_at_call 49; exact calls_later (HMO.out _)))) | skip))
    refine wpQuiet_nil ?_
    intro z hz
    have BZ := keep BW hz
    clear hz
    go_wp2
    go_ret
    exact ⟨by rw [HM.out]; rfl, BZ.out⟩
  have f2 : decide (0 ≤ nd) = true := decide_eq_true g2
  by_cases g3 : nd < 16
  case neg =>
    have f3 : decide (nd < 16) = false := decide_eq_false g3
    have HM : Hid (mv = false) := Lib.hid (by rw [HMV.out]; exact decide_eq_false fun h => g3 (by omega))
    clear g0 g1 g2 g3 HMV
    go_enter Tryz.func44, Tryz.ntmps44
    go_upto_region 1 with fail
    refine wp_named fun W hW => ?_
    obtain ⟨ba, bb, BW, sW⟩ := box2 hW
    clear hW
    have a0 : ∀ z : Later W, z.val.cell? ⟨w.heap.size, 0, none⟩ = some (.int .i64 snap) := Later.cell (ba.out.cell _)
    have a1 : ∀ z : Later W, z.val.cell? ⟨w.heap.size, 1, none⟩ = some (.slice p n c) := Later.cell (ba.out.cell _)
    have c0 : ∀ z : Later W, z.val.cell? ⟨w.heap.size + 1, 0, none⟩ = some (.int .i64 tk) := Later.cell (bb.out.cell _)
    have c1 : ∀ z : Later W, z.val.cell? ⟨w.heap.size + 1, 1, none⟩ = some (.int .i64 nd) := Later.cell (bb.out.cell _)
    have c2 : ∀ z : Later W, z.val.cell? ⟨w.heap.size + 1, 2, none⟩ = some (.bool ou) := Later.cell (bb.out.cell _)
    have c3 : ∀ z : Later W, z.val.cell? ⟨w.heap.size + 1, 3, none⟩ = some (.int .i64 lg) := Later.cell (bb.out.cell _)
    have c4 : ∀ z : Later W, z.val.cell? ⟨w.heap.size + 1, 4, none⟩ = some (.slice pd dn cd) := Later.cell (bb.out.cell _)
    refine region_later (by kernel_rfl) (by kernel_rfl) ?_
    repeat (first | go_big_quiet_skip | (go_big_quiet_want; first | (go_big_quiet_op; first | go_big_quiet_on | go_big_quiet_call ((go_at_call 49; exact calls_later (HMO.out _)))) | skip))
    refine wpQuiet_nil ?_
    intro z hz
    have BZ := keep BW hz
    clear hz
    go_wp2
    go_ret
    exact ⟨by rw [HM.out]; rfl, BZ.out⟩
  have f3 : decide (nd < 16) = true := decide_eq_true g3
  by_cases g4 : 0 ≤ lg
  case neg =>
    have f4 : decide (0 ≤ lg) = false := decide_eq_false g4
    have HM : Hid (mv = false) := Lib.hid (by rw [HMV.out]; exact decide_eq_false fun h => g4 (by omega))
    clear g0 g1 g2 g3 g4 HMV
    go_enter Tryz.func44, Tryz.ntmps44
    go_upto_region 1 with fail
    refine wp_named fun W hW => ?_
    obtain ⟨ba, bb, BW, sW⟩ := box2 hW
    clear hW
    have a0 : ∀ z : Later W, z.val.cell? ⟨w.heap.size, 0, none⟩ = some (.int .i64 snap) := Later.cell (ba.out.cell _)
    have a1 : ∀ z : Later W, z.val.cell? ⟨w.heap.size, 1, none⟩ = some (.slice p n c) := Later.cell (ba.out.cell _)
    have c0 : ∀ z : Later W, z.val.cell? ⟨w.heap.size + 1, 0, none⟩ = some (.int .i64 tk) := Later.cell (bb.out.cell _)
    have c1 : ∀ z : Later W, z.val.cell? ⟨w.heap.size + 1, 1, none⟩ = some (.int .i64 nd) := Later.cell (bb.out.cell _)
    have c2 : ∀ z : Later W, z.val.cell? ⟨w.heap.size + 1, 2, none⟩ = some (.bool ou) := Later.cell (bb.out.cell _)
    have c3 : ∀ z : Later W, z.val.cell? ⟨w.heap.size + 1, 3, none⟩ = some (.int .i64 lg) := Later.cell (bb.out.cell _)
    have c4 : ∀ z : Later W, z.val.cell? ⟨w.heap.size + 1, 4, none⟩ = some (.slice pd dn cd) := Later.cell (bb.out.cell _)
    refine region_later (by kernel_rfl) (by kernel_rfl) ?_
    repeat (first | go_big_quiet_skip | (go_big_quiet_want; first | (go_big_quiet_op; first | go_big_quiet_on | go_big_quiet_call ((go_at_call 49; exact calls_later (HMO.out _)))) | skip))
    refine wpQuiet_nil ?_
    intro z hz
    have BZ := keep BW hz
    clear hz
    go_wp2
    go_ret
    exact ⟨by rw [HM.out]; rfl, BZ.out⟩
  have f4 : decide (0 ≤ lg) = true := decide_eq_true g4
  by_cases g5 : lg ≤ 65575
  case neg =>
    have f5 : decide (lg ≤ 65575) = false := decide_eq_false g5
    have HM : Hid (mv = false) := Lib.hid (by rw [HMV.out]; exact decide_eq_false fun h => g5 (by omega))
    clear g0 g1 g2 g3 g4 g5 HMV
    go_enter Tryz.func44, Tryz.ntmps44
    go_upto_region 1 with fail
    refine wp_named fun W hW => ?_
    obtain ⟨ba, bb, BW, sW⟩ := box2 hW
    clear hW
    have a0 : ∀ z : Later W, z.val.cell? ⟨w.heap.size, 0, none⟩ = some (.int .i64 snap) := Later.cell (ba.out.cell _)
    have a1 : ∀ z : Later W, z.val.cell? ⟨w.heap.size, 1, none⟩ = some (.slice p n c) := Later.cell (ba.out.cell _)
    have c0 : ∀ z : Later W, z.val.cell? ⟨w.heap.size + 1, 0, none⟩ = some (.int .i64 tk) := Later.cell (bb.out.cell _)
    have c1 : ∀ z : Later W, z.val.cell? ⟨w.heap.size + 1, 1, none⟩ = some (.int .i64 nd) := Later.cell (bb.out.cell _)
    have c2 : ∀ z : Later W, z.val.cell? ⟨w.heap.size + 1, 2, none⟩ = some (.bool ou) := Later.cell (bb.out.cell _)
    have c3 : ∀ z : Later W, z.val.cell? ⟨w.heap.size + 1, 3, none⟩ = some (.int .i64 lg) := Later.cell (bb.out.cell _)
    have c4 : ∀ z : Later W, z.val.cell? ⟨w.heap.size + 1, 4, none⟩ = some (.slice pd dn cd) := Later.cell (bb.out.cell _)
    refine region_later (by kernel_rfl) (by kernel_rfl) ?_
    repeat (first | go_big_quiet_skip | (go_big_quiet_want; first | (go_big_quiet_op; first | go_big_quiet_on | go_big_quiet_call ((go_at_call 49; exact calls_later (HMO.out _)))) | skip))
    refine wpQuiet_nil ?_
    intro z hz
    have BZ := keep BW hz
    clear hz
    go_wp2
    go_ret
    exact ⟨by rw [HM.out]; rfl, BZ.out⟩
  have f5 : decide (lg ≤ 65575) = true := decide_eq_true g5
  by_cases g6 : (dn : Int) = mn
  case neg =>
    have f6 : ((dn : Int) == mn) = false := beq_eq_false_iff_ne.2 g6
    have HM : Hid (mv = false) := Lib.hid (by rw [HMV.out]; exact decide_eq_false fun h => g6 (by omega))
    clear g0 g1 g2 g3 g4 g5 g6 HMV
    go_enter Tryz.func44, Tryz.ntmps44
    go_upto_region 1 with fail
    refine wp_named fun W hW => ?_
    obtain ⟨ba, bb, BW, sW⟩ := box2 hW
    clear hW
    have a0 : ∀ z : Later W, z.val.cell? ⟨w.heap.size, 0, none⟩ = some (.int .i64 snap) := Later.cell (ba.out.cell _)
    have a1 : ∀ z : Later W, z.val.cell? ⟨w.heap.size, 1, none⟩ = some (.slice p n c) := Later.cell (ba.out.cell _)
    have c0 : ∀ z : Later W, z.val.cell? ⟨w.heap.size + 1, 0, none⟩ = some (.int .i64 tk) := Later.cell (bb.out.cell _)
    have c1 : ∀ z : Later W, z.val.cell? ⟨w.heap.size + 1, 1, none⟩ = some (.int .i64 nd) := Later.cell (bb.out.cell _)
    have c2 : ∀ z : Later W, z.val.cell? ⟨w.heap.size + 1, 2, none⟩ = some (.bool ou) := Later.cell (bb.out.cell _)
    have c3 : ∀ z : Later W, z.val.cell? ⟨w.heap.size + 1, 3, none⟩ = some (.int .i64 lg) := Later.cell (bb.out.cell _)
    have c4 : ∀ z : Later W, z.val.cell? ⟨w.heap.size + 1, 4, none⟩ = some (.slice pd dn cd) := Later.cell (bb.out.cell _)
    refine region_later (by kernel_rfl) (by kernel_rfl) ?_
    repeat (first | go_big_quiet_skip | (go_big_quiet_want; first | (go_big_quiet_op; first | go_big_quiet_on | go_big_quiet_call ((go_at_call 49; exact calls_later (HMO.out _)))) | skip))
    refine wpQuiet_nil ?_
    intro z hz
    have BZ := keep BW hz
    clear hz
    go_wp2
    go_ret
    exact ⟨by rw [HM.out]; rfl, BZ.out⟩
  have f6 : ((dn : Int) == mn) = true := beq_iff_eq.2 g6
  have HM : Hid (mv = true) := Lib.hid (by rw [HMV.out]; exact decide_eq_true ⟨g0, g1, g2, g3, g4, g5, g6⟩)
  clear g0 g1 g2 g3 g4 g5 g6 HMV
  go_enter Tryz.func44, Tryz.ntmps44
  go_upto_region 1 with fail
  refine wp_named fun W hW => ?_
  obtain ⟨ba, bb, BW, sW⟩ := box2 hW
  clear hW
  have a0 : ∀ z : Later W, z.val.cell? ⟨w.heap.size, 0, none⟩ = some (.int .i64 snap) := Later.cell (ba.out.cell _)
  have a1 : ∀ z : Later W, z.val.cell? ⟨w.heap.size, 1, none⟩ = some (.slice p n c) := Later.cell (ba.out.cell _)
  have c0 : ∀ z : Later W, z.val.cell? ⟨w.heap.size + 1, 0, none⟩ = some (.int .i64 tk) := Later.cell (bb.out.cell _)
  have c1 : ∀ z : Later W, z.val.cell? ⟨w.heap.size + 1, 1, none⟩ = some (.int .i64 nd) := Later.cell (bb.out.cell _)
  have c2 : ∀ z : Later W, z.val.cell? ⟨w.heap.size + 1, 2, none⟩ = some (.bool ou) := Later.cell (bb.out.cell _)
  have c3 : ∀ z : Later W, z.val.cell? ⟨w.heap.size + 1, 3, none⟩ = some (.int .i64 lg) := Later.cell (bb.out.cell _)
  have c4 : ∀ z : Later W, z.val.cell? ⟨w.heap.size + 1, 4, none⟩ = some (.slice pd dn cd) := Later.cell (bb.out.cell _)
  refine region_later (by kernel_rfl) (by kernel_rfl) ?_
  repeat (first | go_big_quiet_skip | (go_big_quiet_want; first | (go_big_quiet_op; first | go_big_quiet_on | go_big_quiet_call ((go_at_call 49; exact calls_later (HMO.out _)))) | skip))
  refine wpQuiet_nil ?_
  intro z hz
  have BZ := keep BW hz
  clear hz
  go_wp2
  go_ret
  exact ⟨by rw [HM.out]; rfl, BZ.out⟩
end Go.Proofs.YtpciggnanlflkaaGreatDoor.Ad
namespace Go.Proofs.YtpciggnanlflkaaGreatDoor.Ad
set_option linter.unusedVariables false
set_option linter.unusedSimpArgs false
open Go.RowKit Go.Maps W
set_option maxRecDepth 100000 in
set_option maxHeartbeats 4000000 in
theorem rright_calls (t : Tp) (p : Option Go.Addr) (c : Nat) (w : World) (hp : RAt w p t.recs) : Calls Tryz.prog 17 #[.agg #[.int .i64 t.snap, .slice p t.recs.length c]] w fun e w' => e = .returned (.bool (rightV t)) ∧ Below w.heap.size w w' := by
  have HP := Lib.hid hp
  obtain ⟨n, hn⟩ : ∃ n, t.recs.length = n := ⟨_, rfl⟩
  have HN := Lib.hid hn
  rw [hn]
  obtain ⟨sn, hsn⟩ : ∃ s, t.snap = s := ⟨_, rfl⟩
  have HSN := Lib.hid hsn
  rw [hsn]
  clear hp hn hsn
  go_enter Tryz.func17, Tryz.ntmps17
  go_upto_region 1 with fail
  refine wp_named fun W hW => ?_
  obtain ⟨bk, BW, sW⟩ := box1 hW
  have c0 : W.cell? ⟨w.heap.size, 0, none⟩ = some (.int .i64 sn) := bk.out.cell _
  have c1 : W.cell? ⟨w.heap.size, 1, none⟩ = some (.slice p n c) := bk.out.cell _
  clear hW
  by_cases h0 : sn < 0
  · have f0 : decide (sn < 0) = true := decide_eq_true h0
    have HM : Hid (rightV t = false) := Lib.hid (by have := HSN.out; unfold rightV; rw [decide_eq_false (by omega)]; rfl)
    go_wp2
    go_ret
    exact ⟨by rw [HM.out]; rfl, BW.out⟩
  have f0 : decide (sn < 0) = false := decide_eq_false h0
  by_cases h1 : 65575 < sn
  · have f1 : decide (65575 < sn) = true := decide_eq_true h1
    have HM : Hid (rightV t = false) := Lib.hid (by have := HSN.out; unfold rightV; rw [decide_eq_false (by omega)]; rfl)
    go_wp2
    go_ret
    exact ⟨by rw [HM.out]; rfl, BW.out⟩
  have f1 : decide (65575 < sn) = false := decide_eq_false h1
  by_cases h2 : 4096 < n
  · have f2 : decide (4096 < n) = true := decide_eq_true h2
    have f2' : decide ((4096 : Int) < (n : Int)) = true := decide_eq_true (by omega)
    have HM : Hid (rightV t = false) := Lib.hid (by have := HN.out; unfold rightV; rw [decide_eq_false (by omega)]; rfl)
    go_wp2
    go_ret
    exact ⟨by rw [HM.out]; rfl, BW.out⟩
  have f2 : decide (4096 < n) = false := decide_eq_false h2
  have f2' : decide ((4096 : Int) < (n : Int)) = false := decide_eq_false (by omega)
  have HR : Hid (rightV t = allV sn 0 t.recs) := Lib.hid (by unfold rightV; have h3 := HSN.out; have h4 := HN.out; rw [decide_eq_true (by omega), h3]; rfl)
  have hb32 : n ≤ 4096 := by omega
  go_upto_region 5 with fail
  clear c0 c1
  go_loopw [3, 4, 5] (fun u3 u4 _ wr => ∃ k : Nat, u4 = .int .i64 k ∧ k ≤ n ∧ u3 = .int .i64 (lastV 0 (t.recs.take k)) ∧ allV sn 0 (t.recs.take k) = true ∧ Hid (Below W.heap.size W wr)) (fun _ u4 _ _ => n - (intOf u4).toNat)
  case atStart => exact ⟨0, rfl, Nat.zero_le _, rfl, rfl, Lib.hid (Below.refl _ _)⟩
  case round =>
    obtain ⟨k, rfl, hk, rfl, hall, HB⟩ := hrel
    have HALL := Lib.hid hall
    have HBW := keep BW HB.out
    have bkr := Lib.hid (bk.out.later HB.out bk.out.lt)
    have c0 : wr.cell? ⟨w.heap.size, 0, none⟩ = some (.int .i64 sn) := bkr.out.cell _
    have c1 : wr.cell? ⟨w.heap.size, 1, none⟩ = some (.slice p n c) := bkr.out.cell _
    clear hall
    by_cases hlt : k < n
    · have x1 : decide ((k : Int) < (n : Int)) = true := decide_eq_true (by omega)
      have x1' : decide (k < n) = true := decide_eq_true hlt
      have HK : Hid (k < t.recs.length) := Lib.hid (by have := HN.out; omega)
      obtain ⟨r, hr⟩ : ∃ r, t.recs[k]? = some r := ⟨_, List.getElem?_eq_getElem HK.out⟩
      have HRR := Lib.hid hr
      have hap := HP.out.later HBW.out
      clear hr
      rcases hap with hap | ⟨g, o, rfl, hgl, hh⟩
      · have := HK.out; rw [hap] at this; exact absurd this (Nat.not_lt_zero _)
      obtain ⟨pd, cd, hr5, _⟩ := hh k r HRR.out
      have k0 : ∀ z : Later wr, z.val.cell? ⟨w.heap.size, 0, none⟩ = some (.int .i64 sn) := Later.cell c0
      have k1 : ∀ z : Later wr, z.val.cell? ⟨w.heap.size, 1, none⟩ = some (.slice (some ⟨g, o, none⟩) n c) := Later.cell c1
      have d0 : ∀ z : Later wr, z.val.cell? ⟨g, o + k * 5, none⟩ = some (.int .i64 r.tk) := Later.cell (hr5 0 _ rfl)
      have d1 : ∀ z : Later wr, z.val.cell? ⟨g, o + k * 5 + 1, none⟩ = some (.int .i64 r.node) := Later.cell (hr5 1 _ rfl)
      have d2 : ∀ z : Later wr, z.val.cell? ⟨g, o + k * 5 + 2, none⟩ = some (.bool r.out) := Later.cell (hr5 2 _ rfl)
      have d3 : ∀ z : Later wr, z.val.cell? ⟨g, o + k * 5 + 3, none⟩ = some (.int .i64 r.long) := Later.cell (hr5 3 _ rfl)
      have d4 : ∀ z : Later wr, z.val.cell? ⟨g, o + k * 5 + 4, none⟩ = some (.slice pd r.data.length cd) := Later.cell (hr5 4 _ rfl)
      clear hr5 hh
      have HMY := Lib.hid (fun w => fits_calls r pd cd sn (lastV 0 (t.recs.take k)) (some ⟨g, o, none⟩) n c w)
      unfold recC at HMY
      have HT := Lib.hid (allV_take (snap := sn) HRR.out)
      have HLT := Lib.hid (lastV_take HRR.out)
      obtain ⟨la, hla⟩ : ∃ x, lastV 0 (t.recs.take k) = x := ⟨_, rfl⟩
      rw [hla] at HMY HT ⊢
      clear hla
      cases hm : mayV r sn la
      · rw [hm] at HMY
        have HM : Hid (rightV t = false) := Lib.hid (by rw [HR.out]; exact allV_front (k := k + 1) (by rw [HT.out, hm, Bool.and_false]))
        clear hm
        go_upto_region 7 with fail
        refine region_later (by kernel_rfl) (by kernel_rfl) ?_
        repeat (first | go_big_quiet_skip | (go_big_quiet_want; first | (go_big_quiet_op; first | go_big_quiet_on | go_big_quiet_call ((go_at_call 44; exact calls_later (HMY.out _)))) | skip))
        refine wpQuiet_nil ?_
        intro z hz
        have HBZ := keep HBW hz
        clear hz k0 k1 d0 d1 d2 d3 d4
        go_wp2
        go_ret
        exact ⟨by rw [HM.out]; rfl, HBZ.out⟩
      · rw [hm] at HMY
        have HA2 : Hid (allV sn 0 (t.recs.take (k + 1)) = true) := Lib.hid (by rw [HT.out, hm, HALL.out]; rfl)
        clear hm
        go_upto_region 7 with fail
        refine region_later (by kernel_rfl) (by kernel_rfl) ?_
        repeat (first | go_big_quiet_skip | (go_big_quiet_want; first | (go_big_quiet_op; first | go_big_quiet_on | go_big_quiet_call ((go_at_call 44; exact calls_later (HMY.out _)))) | skip))
        refine wpQuiet_nil ?_
        intro z hz
        have e1 : z.cell? ⟨w.heap.size, 1, none⟩ = some (.slice (some ⟨g, o, none⟩) n c) := k1 ⟨z, hz⟩
        have e0 : z.cell? ⟨g, o + k * 5, none⟩ = some (.int .i64 r.tk) := d0 ⟨z, hz⟩
        have HB4 := Lib.hid (HB.out.trans (hz.mono HB.out.size))
        clear hz k0 k1 d0 d1 d2 d3 d4 c0 c1
        go_wp2
        exact ⟨⟨k + 1, by go_num, by omega, by rw [HLT.out], HA2.out, HB4⟩, by simp [intOf]; omega⟩
    · have e1 : decide ((k : Int) < (n : Int)) = false := decide_eq_false (by omega)
      have e1' : decide (k < n) = false := decide_eq_false hlt
      have HM : Hid (rightV t = true) := Lib.hid (by
        rw [HR.out]
        have h := HALL.out
        rwa [List.take_of_length_le (by have := HN.out; omega)] at h)
      clear hlt
      go_wp2
      go_ret
      exact ⟨by rw [HM.out]; rfl, HBW.out⟩
set_option maxRecDepth 100000 in
set_option maxHeartbeats 2000000 in
theorem rnumber_calls (B : Nat) (l : List UInt8) (x : Value) (v : Int) (n : Nat) (hn : n ≤ 8) (m : Int) (hm : m = n) (w : World) (hx : w.ownsRow B 5 1 x l.length (Lib.byteCells l)) (hB : B ≤ w.heap.size) (hl : l.length ≤ 4294967296) :
    Calls Tryz.prog 35 #[x, .int .i64 v, .int .i64 m] w fun e w' => ∃ x' l', e = .returned x' ∧ Hid (l' = l ++ numB v n) ∧ Hid (w'.ownsRow B 5 1 x' l'.length (Lib.byteCells l')) ∧ Hid (Ap x w x' w') := by
  subst hm
  obtain ⟨i0, hi, hz0, hz1, hz2⟩ := info_parts (show (Tryz.prog.info? 5).map (fun i => (i.zero, i.size, i.bytes)) = some (some (.int .u8 0), 1, 1) by kernel_rfl)
  have HX := Lib.hid hx
  obtain ⟨ll, hll⟩ : ∃ k, l.length = k := ⟨_, rfl⟩
  have HLL := Lib.hid hll
  rw [hll] at HX hl
  clear hx hll
  go_enter Tryz.func35, Tryz.ntmps35
  go_wp2
  go_loopw [0, 7] (fun u0 u7 wr => ∃ (j : Nat) (y : Value), u7 = .int .i64 ((n : Int) - 1 - j) ∧ u0 = y ∧ j ≤ n ∧ Hid (wr.ownsRow B 5 1 y (ll + j) (Lib.byteCells (l ++ (numB v n).take j))) ∧ Hid (Ap x w y wr)) (fun _ u7 _ => (intOf u7 + 1).toNat)
  case atStart => exact ⟨0, _, by go_num, rfl, Nat.zero_le _, by simpa using HX, Lib.hid (Ap.refl _ _)⟩
  case round =>
    obtain ⟨j, y, rfl, rfl, hj, HY, HW⟩ := hrel
    have HSZ : Hid (B ≤ wr.heap.size) := Lib.hid (Nat.le_trans hB HW.out.fr.size)
    by_cases hlt : j < n
    · have e1 : decide ((0 : Int) ≤ (n : Int) - 1 - (j : Int)) = true := decide_eq_true (by omega)
      obtain ⟨k, hk⟩ : ∃ k : Nat, (n : Int) - 1 - (j : Int) = k := ⟨n - 1 - j, by omega⟩
      have HK : Hid (n - 1 - j = k) := Lib.hid (by omega)
      rw [hk] at e1 ⊢
      have hk8 : k < 8 := by omega
      have HWA : Hid (Ap u0 wr u0 (wr.alloc (.cells #[.int .u8 (v / 2 ^ (8 * k) % 256)] 5))) := Lib.hid (Ap.of ((Below.refl _ _).alloc (Nat.le_refl _) _))
      have HNX : Hid (Lib.byteCells (l ++ (numB v n).take (j + 1)) = Lib.byteCells (l ++ (numB v n).take j) ++ [.int .u8 (v / 2 ^ (8 * k) % 256)]) := Lib.hid (by
        rw [numB_take v n j hlt, HK.out, ← List.append_assoc, cells_app]
        congr 1
        show [Value.int .u8 ((byteV v k).toNat : Int)] = _
        rw [byteV_is])
      go_wp2_with (at_builtin; refine wpList_append_two rfl _ _ 26 rfl 5 i0 _ 1 1 Tryz.underlying26 hi hz0 hz1 hz2 (by rfl) (by omega) B u0 (ll + j) _ rfl (World.ownsRow.alloc HY.out _) ⟨wr.heap.size, 0, none⟩ 1 1 [.int .u8 (v / 2 ^ (8 * k) % 256)] rfl rfl (news_b _ _) (fun u hu => by rw [List.mem_singleton.1 hu]; rfl) (by omega) (by unfold maxLen; omega) (by omega) (by have := HSZ.out; simp; omega) ?_; intro g cap w1 hown hgr hlt')
      rw [← HNX.out] at hown
      have HB1 := Lib.hid ((HW.out.trans HWA.out).trans (Ap.row (n := ll + j + 1) (cap := cap) hgr))
      exact ⟨⟨j + 1, _, by go_num, rfl, by omega, Lib.hid hown, HB1⟩, by simp [intOf] <;> omega⟩
    · have e1 : decide ((0 : Int) ≤ (n : Int) - 1 - (j : Int)) = false := decide_eq_false (by omega)
      obtain rfl : j = n := by omega
      have hlen : (l ++ numB v j).length = ll + j := by have := HLL.out; simp [numB_len]; omega
      have HF : Hid (wr.ownsRow B 5 1 u0 (l ++ numB v j).length (Lib.byteCells (l ++ numB v j))) := Lib.hid (by
        have h := HY.out
        rw [List.take_of_length_le (by rw [numB_len]; omega)] at h
        rw [hlen]; exact h)
      clear hlt hj hlen
      go_wp2
      go_ret
      exact ⟨_, _, rfl, Lib.hid rfl, HF, HW⟩
theorem rnumber_step (B : Nat) (l : List UInt8) (x : Value) (v : Int) (n : Nat) (hn : n ≤ 8) (m : Int) (hm : m = n) (w : World) (hx : Hid (w.ownsRow B 5 1 x l.length (Lib.byteCells l))) (hB : Hid (B ≤ w.heap.size)) (hl : Hid (l.length ≤ 4294967296)) :
    Calls Tryz.prog 35 #[x, .int .i64 v, .int .i64 m] w fun e w' => ∃ x' l', e = .returned x' ∧ Hid (l' = l ++ numB v n) ∧ Hid (w'.ownsRow B 5 1 x' l'.length (Lib.byteCells l')) ∧ Hid (Ap x w x' w') ∧ Hid (Below B w w') ∧ Hid (B ≤ w'.heap.size) :=
  (rnumber_calls B l x v n hn m hm w hx.out hB.out hl.out).mono fun e w' ⟨x', l', h1, h2, h3, h4⟩ =>
    have h5 := h4.out.below (own_ge hx.out) hB.out
    ⟨x', l', h1, h2, h3, h4, Lib.hid h5, Lib.hid (Nat.le_trans hB.out h5.size)⟩
set_option maxRecDepth 100000 in
set_option maxHeartbeats 4000000 in
theorem rhead_calls (t : Tp) (p : Option Go.Addr) (c : Nat) (w : World) : Calls Tryz.prog 34 #[.agg #[.int .i64 t.snap, .slice p t.recs.length c]] w fun e w' =>
    ∃ v, e = .returned v ∧ w'.ownsRow w.heap.size 5 1 v (headB t).length (Lib.byteCells (headB t)) ∧ Below w.heap.size w w' := by
  have HH : Hid (headB t = (([116, 97, 112, 101, 1] : List UInt8) ++ numB t.snap 4) ++ numB (t.recs.length : Int) 4) := Lib.hid (by unfold headB; rw [List.append_assoc])
  obtain ⟨hd, hhd⟩ : ∃ q, headB t = q := ⟨_, rfl⟩
  rw [hhd] at HH ⊢
  clear hhd
  obtain ⟨n, hn⟩ : ∃ n, t.recs.length = n := ⟨_, rfl⟩
  obtain ⟨sn, hsn⟩ : ∃ n, t.snap = n := ⟨_, rfl⟩
  rw [hn, hsn] at HH ⊢
  clear hn hsn
  go_enter Tryz.func34, Tryz.ntmps34
  go_upto_region 1 with fail
  refine wp_named fun W hW => ?_
  obtain ⟨bk, BW, sW⟩ := box1 hW
  clear hW
  go_upto_region 2 with fail
  refine wp_named fun W1 hW1 => ?_
  have HB1 := (box1 hW1).2.1
  have HX : Hid (∃ x0 l0, x0 = Value.slice (some ⟨W.heap.size, 0, none⟩) 5 5 ∧ l0 = ([116, 97, 112, 101, 1] : List UInt8) ∧ W1.ownsRow W.heap.size 5 1 x0 l0.length (Lib.byteCells l0)) := Lib.hid ⟨_, _, rfl, rfl, by rw [hW1]; exact own_new W W.heap.size W.heap.size rfl (Nat.le_refl _) (Lib.byteCells [116, 97, 112, 101, 1]) 5 5 1 rfl (by decide)⟩
  have bk := Lib.hid (bk.out.later HB1.out bk.out.lt)
  have HS := Lib.hid HB1.out.size
  clear hW1
  obtain ⟨x0, l0, hx0, hl0, hown0⟩ := HX.out
  rw [← hx0]
  have HL0 := Lib.hid hl0
  have HO := Lib.hid hown0
  have HNE : Hid (x0.ownBlock ≠ some w.heap.size) := Lib.hid fun e => by have := own_ge hown0 _ e; have := sW.out; omega
  have HLEN : Hid (l0.length ≤ 4294967296) := Lib.hid (by rw [hl0]; decide)
  clear hx0 hl0 hown0 HX
  have c0 : W1.cell? ⟨w.heap.size, 0, none⟩ = some (.int .i64 sn) := bk.out.cell _
  go_upto_region 3 with (go_at_call 35; refine (rnumber_step W.heap.size l0 x0 sn 4 (by omega) _ rfl _ HO HS HLEN).mono ?_; rintro e W2 ⟨x1, l1, rfl, HL1, HO1, HA1, HB2, HS1⟩)
  have bk := Lib.hid (HA1.out.blk bk.out HNE.out)
  have c1 : W2.cell? ⟨w.heap.size, 1, none⟩ = some (.slice p n c) := bk.out.cell _
  have HLEN1 : Hid (l1.length ≤ 4294967296) := Lib.hid (by rw [HL1.out, HL0.out]; simp [numB_len])
  clear c0 HO HLEN HA1
  go_wp2_with (go_at_call 35; refine (rnumber_step W.heap.size l1 x1 (n : Int) 4 (by omega) _ rfl _ HO1 HS1 HLEN1).mono ?_; rintro e W3 ⟨x2, l2, rfl, HL2, HO2, HA2, HB3, HS2⟩)
  go_ret
  have he : hd = l2 := by rw [HH.out, HL2.out, HL1.out, HL0.out]
  exact ⟨x2, rfl, by rw [he]; exact own_base HO2.out BW.out.size, BW.out.trans ((HB1.out.trans (HB2.out.trans HB3.out)).mono BW.out.size)⟩
end Go.Proofs.YtpciggnanlflkaaGreatDoor.Ad
namespace Go.Proofs.YtpciggnanlflkaaGreatDoor.Ad
set_option linter.unusedVariables false
set_option linter.unusedSimpArgs false
open Go.RowKit Go.Maps W
set_option maxRecDepth 100000 in
set_option maxHeartbeats 4000000 in
theorem rbuild_calls (t : Tp) (p : Option Go.Addr) (c : Nat) (w : World) (hp : RAt w p t.recs) : Calls Tryz.prog 12 #[.agg #[.int .i64 t.snap, .slice p t.recs.length c]] w fun e w' =>
    ∃ v, e = .returned (.tuple #[v, .int .i64 (buildV t).2]) ∧ w'.ownsRow w.heap.size 5 1 v (buildV t).1.length (Lib.byteCells (buildV t).1) ∧ Below w.heap.size w w' := by
  have HP := Lib.hid hp
  have HRI := Lib.hid (fun w' (h : Below w.heap.size w w') => rright_calls t p c w' (hp.later h))
  cases hm : rightV t
  · have HM : Hid (buildV t = ([], 1)) := Lib.hid (by unfold buildV; rw [hm]; rfl)
    rw [hm] at HRI
    clear hp hm
    go_enter Tryz.func12, Tryz.ntmps12
    go_upto_region 1 with fail
    refine wp_named fun W hW => ?_
    obtain ⟨bk, BW, sW⟩ := box1 hW
    have c0 : W.cell? ⟨w.heap.size, 0, none⟩ = some (.int .i64 t.snap) := bk.out.cell _
    have c1 : W.cell? ⟨w.heap.size, 1, none⟩ = some (.slice p t.recs.length c) := bk.out.cell _
    clear hW
    go_wp2_with (go_at_call 17; refine (HRI.out _ BW.out).mono ?_; rintro e W2 ⟨rfl, hB2⟩)
    go_ret2
    exact ⟨_, by rw [HM.out]; rfl, by rw [HM.out]; exact World.ownsRow_nil _ _ _ _, (keep BW hB2).out⟩
  · have HM : Hid (buildV t = (bytesB t, 0)) := Lib.hid (by unfold buildV; rw [hm]; rfl)
    rw [hm] at HRI
    have HRT := Lib.hid hm
    obtain ⟨n, hn⟩ : ∃ n, t.recs.length = n := ⟨_, rfl⟩
    have HN := Lib.hid hn
    obtain ⟨sn, hsn⟩ : ∃ n, t.snap = n := ⟨_, rfl⟩
    have HSN := Lib.hid hsn
    rw [hn, hsn] at HRI ⊢
    have hb32 : n ≤ 4096 := by rw [← hn]; exact right_len hm
    clear hp hm hn hsn
    obtain ⟨i0, hi, hz0, hz1, hz2⟩ := info_parts (show (Tryz.prog.info? 5).map (fun i => (i.zero, i.size, i.bytes)) = some (some (.int .u8 0), 1, 1) by kernel_rfl)
    go_enter Tryz.func12, Tryz.ntmps12
    go_upto_region 1 with fail
    refine wp_named fun W hW => ?_
    obtain ⟨bk, BW, sW⟩ := box1 hW
    have c0 : W.cell? ⟨w.heap.size, 0, none⟩ = some (.int .i64 sn) := bk.out.cell _
    have c1 : W.cell? ⟨w.heap.size, 1, none⟩ = some (.slice p n c) := bk.out.cell _
    clear hW
    go_upto_region 4 with (go_at_call 17; refine (HRI.out _ BW.out).mono ?_; rintro e W2 ⟨rfl, hB2⟩)
    have BW2 := keep BW hB2
    have bk := Lib.hid (bk.out.later hB2 bk.out.lt)
    have c0 : W2.cell? ⟨w.heap.size, 0, none⟩ = some (.int .i64 sn) := bk.out.cell _
    have c1 : W2.cell? ⟨w.heap.size, 1, none⟩ = some (.slice p n c) := bk.out.cell _
    have HRA := Lib.hid (HP.out.later BW2.out)
    have HHD := Lib.hid (fun w => rhead_calls t p c w)
    rw [HN.out, HSN.out] at HHD
    obtain ⟨l2, hl2⟩ : ∃ l, headB t = l := ⟨_, rfl⟩
    rw [hl2] at HHD
    have HLH : Hid (l2 = headB t ++ (t.recs.take 0).flatMap recB) := Lib.hid (by rw [hl2]; simp)
    clear hB2 BW sW HRI hl2
    go_upto_region 5 with (go_at_call 34; refine (HHD.out _).mono ?_; rintro e W3 ⟨x2, rfl, hO2, hB3⟩)
    have HO2 := Lib.hid hO2
    have HB := Lib.hid hB3
    clear hO2 hB3 c0 c1
    go_upto_region 6 with fail
    go_loopw [5, 6, 7, 8] (fun u5 u _ _ wr => ∃ (k : Nat) (x : Value) (l : List UInt8), u = .int .i64 k ∧ u5 = x ∧ k ≤ n ∧ Hid (l = headB t ++ (t.recs.take k).flatMap recB) ∧ Hid (wr.ownsRow W2.heap.size 5 1 x l.length (Lib.byteCells l)) ∧ Hid (Below W2.heap.size W2 wr)) (fun _ u _ _ _ => n - (intOf u).toNat)
    case atStart => exact ⟨0, _, _, rfl, rfl, Nat.zero_le _, HLH, HO2, HB⟩
    case round =>
      clear HB HO2 HLH
      obtain ⟨k, x, l, rfl, rfl, hk, HL, HO, HB⟩ := hrel
      have HS := Lib.hid HB.out.size
      have c1 : wr.cell? ⟨w.heap.size, 1, none⟩ = some (.slice p n c) := (bk.out.later HB.out bk.out.lt).cell _
      by_cases hlt : k < n
      · have x1 : decide ((k : Int) < (n : Int)) = true := decide_eq_true (by omega)
        have x1' : decide (k < n) = true := decide_eq_true hlt
        have HK : Hid (k < t.recs.length) := Lib.hid (by have := HN.out; omega)
        obtain ⟨r, hr⟩ : ∃ r, t.recs[k]? = some r := ⟨_, List.getElem?_eq_getElem HK.out⟩
        have HRR := Lib.hid hr
        have HLB : Hid (l.length + (recB r).length ≤ 268652557) := Lib.hid (by
          have h := bytes_bound HRT.out (k + 1)
          rw [recs_take hr, ← List.append_assoc, ← HL.out, List.length_append] at h
          exact h)
        obtain ⟨g, o, rfl, hgl, pd, cd, hr0, hbd, _⟩ := own_cellsB HRA.out hr
        have hr5 : wr.rangeAt g (o + k * 5) (recC r (.slice pd r.data.length cd)) := fun j v hv => (HB.out.cell (by exact hgl)).trans (hr0 j v hv)
        clear hr0
        have HDT := Lib.hid hbd
        clear hr hbd hgl
        obtain ⟨tk, nd, ou, lg, dt⟩ := r
        have d0 : wr.cell? ⟨g, o + k * 5, none⟩ = some (.int .i64 tk) := hr5 0 _ rfl
        have d1 : wr.cell? ⟨g, o + k * 5 + 1, none⟩ = some (.int .i64 nd) := hr5 1 _ rfl
        have d2 : wr.cell? ⟨g, o + k * 5 + 2, none⟩ = some (.bool ou) := hr5 2 _ rfl
        have d3 : wr.cell? ⟨g, o + k * 5 + 3, none⟩ = some (.int .i64 lg) := hr5 3 _ rfl
        have d4 : wr.cell? ⟨g, o + k * 5 + 4, none⟩ = some (.slice pd dt.length cd) := hr5 4 _ rfl
        obtain ⟨dn, hdn⟩ : ∃ q, dt.length = q := ⟨_, rfl⟩
        have HDN := Lib.hid hdn
        rw [hdn] at d4
        clear hr5 hdn
        go_upto_region 9 with fail
        refine wp_named fun V hV => ?_
        obtain ⟨b3, B3, s3⟩ := box1 hV
        have HNE : Hid (u5.ownBlock ≠ some wr.heap.size) := Lib.hid (own_fresh HO.out)
        have HO := Lib.hid (own_later HO.out B3.out)
        have HGV : Hid (wr.heap.size < V.heap.size) := Lib.hid b3.out.lt
        have HB := Lib.hid (HB.out.trans (B3.out.mono HS.out))
        have HS := Lib.hid HB.out.size
        obtain ⟨G, hG⟩ : ∃ g, wr.heap.size = g := ⟨_, rfl⟩
        rw [hG] at b3 HNE HGV ⊢
        clear hV hG d0 d1 d2 d3 d4 B3 s3
        have e0 : V.cell? ⟨G, 0, none⟩ = some (.int .i64 tk) := b3.out.cell _
        have HLEN : Hid (l.length + (14 + dt.length) ≤ 268652557) := Lib.hid (by have := HLB.out; rw [recB_len] at this; simp only at this; omega)
        have HL0 : Hid (l.length ≤ 4294967296) := Lib.hid (by have := HLEN.out; omega)
        go_upto_region 10 with (go_at_call 35; refine (rnumber_step W2.heap.size l u5 tk 8 (by omega) _ rfl _ HO HS HL0).mono ?_; rintro e V1 ⟨x1, l1, rfl, HL1, HO1, HA1, HB1, HS1⟩)
        have b3 := Lib.hid (HA1.out.blk b3.out HNE.out)
        have HNE1 := Lib.hid (HA1.out.ne HNE.out HGV.out)
        have HGV1 := Lib.hid b3.out.lt
        have HDT := Lib.hid (HDT.out)
        have HB := Lib.hid (HB.out.trans HB1.out)
        clear e0 HO HS HNE HGV HA1 HB1
        have e1 : V1.cell? ⟨G, 1, none⟩ = some (.int .i64 nd) := b3.out.cell _
        have HL1n : Hid (l1.length ≤ 4294967296) := Lib.hid (by have := HLEN.out; rw [HL1.out, List.length_append, numB_len]; omega)
        go_upto_region 11 with (go_at_call 35; refine (rnumber_step W2.heap.size l1 x1 nd 1 (by omega) _ rfl _ HO1 HS1 HL1n).mono ?_; rintro e V2 ⟨x2, l2, rfl, HL2, HO2, HA2, HB2, HS2⟩)
        have b3 := Lib.hid (HA2.out.blk b3.out HNE1.out)
        have HNE2 := Lib.hid (HA2.out.ne HNE1.out HGV1.out)
        have HGV2 := Lib.hid b3.out.lt
        have HB := Lib.hid (HB.out.trans HB2.out)
        have HL2n : Hid (l2.length ≤ 4294967296) := Lib.hid (by have := HLEN.out; rw [HL2.out, HL1.out]; simp only [List.length_append, numB_len]; omega)
        clear e1 HO1 HS1 HNE1 HGV1 HA2 HB2 HL1n c1
        have e2 : V2.cell? ⟨G, 2, none⟩ = some (.bool ou) := b3.out.cell _
        obtain ⟨oi, hoi⟩ : ∃ q : Int, outV ou = q := ⟨_, rfl⟩
        have hcase : ∀ (b : Bool), ou = b → (if b = true then (1 : Int) else 0) = oi := fun b hb => by rw [← hoi, hb]; rfl
        clear hoi
        cases ou
        all_goals
          have hoi := hcase _ rfl
          simp only [if_true, if_false, Bool.false_eq_true] at hoi
          subst hoi
          clear hcase
          go_upto_region 14 with fail
          clear e2
          go_upto_region 15 with (go_at_call 35; refine (rnumber_step W2.heap.size l2 x2 _ 1 (by omega) _ rfl _ HO2 HS2 HL2n).mono ?_; rintro e V3 ⟨x3, l3, rfl, HL3, HO3, HA3, HB3, HS3⟩)
          have b3 := Lib.hid (HA3.out.blk b3.out HNE2.out)
          have HNE3 := Lib.hid (HA3.out.ne HNE2.out HGV2.out)
          have HGV3 := Lib.hid b3.out.lt
          have HB := Lib.hid (HB.out.trans HB3.out)
          have HL3n : Hid (l3.length ≤ 4294967296) := Lib.hid (by have := HLEN.out; rw [HL3.out, HL2.out, HL1.out]; simp only [List.length_append, numB_len]; omega)
          have e3 : V3.cell? ⟨G, 3, none⟩ = some (.int .i64 lg) := b3.out.cell _
          clear HO2 HS2 HNE2 HGV2 HA3 HB3 HL2n
          go_upto_region 16 with (go_at_call 35; refine (rnumber_step W2.heap.size l3 x3 lg 4 (by omega) _ rfl _ HO3 HS3 HL3n).mono ?_; rintro e V4 ⟨x4, l4, rfl, HL4, HO4, HA4, HB4, HS4⟩)
          have b3 := Lib.hid (HA4.out.blk b3.out HNE3.out)
          have HB := Lib.hid (HB.out.trans HB4.out)
          have HL4n : Hid (l4.length + dt.length ≤ 4294967296) := Lib.hid (by have := HLEN.out; rw [HL4.out, HL3.out, HL2.out, HL1.out]; simp only [List.length_append, numB_len]; omega)
          have e4 : V4.cell? ⟨G, 4, none⟩ = some (.slice pd dn cd) := b3.out.cell _
          have HDV := Lib.hid (HDT.out.later HB.out)
          clear HO3 HS3 HNE3 HGV3 HA4 HB4 HL3n e3
          go_wp2_with (at_builtin; refine wpList_append_bytes rfl _ _ rfl W2.heap.size x4 l4 rfl HO4.out pd dt dn cd HDN.out.symm rfl HDV.out (Nat.le_trans HL4n.out (by omega)) HS4.out ?_; intro x5 V5 HO5 HA5)
          have HO5 := Lib.hid HO5
          have HB := Lib.hid (HB.out.trans (HA5.below (own_ge HO4.out) HS4.out))
          have HN5 : Hid (l4 ++ dt = headB t ++ (t.recs.take (k + 1)).flatMap recB) := Lib.hid (by
            rw [HL4.out, HL3.out, HL2.out, HL1.out, HL.out, recs_take HRR.out]
            simp only [recB, outV, List.append_assoc, if_true, if_false, Bool.false_eq_true])
          exact ⟨⟨k + 1, _, _, by go_num, rfl, by omega, HN5, HO5, HB⟩, by simp [intOf]; omega⟩
      · have x1 : decide ((k : Int) < (n : Int)) = false := decide_eq_false (by omega)
        have x1' : decide (k < n) = false := decide_eq_false hlt
        have HF : Hid (l = bytesB t) := Lib.hid (by
          have hkn : k = n := by omega
          rw [HL.out, hkn, ← HN.out, List.take_length]; rfl)
        clear hlt
        go_wp2
        go_ret2
        exact ⟨u5, by rw [HM.out]; rfl, by rw [HM.out]; show wr.ownsRow _ _ _ _ (bytesB t).length (Lib.byteCells (bytesB t)); rw [← HF.out]; exact own_base HO.out BW2.out.size, BW2.out.trans (HB.out.mono BW2.out.size)⟩
end Go.Proofs.YtpciggnanlflkaaGreatDoor.Ad
