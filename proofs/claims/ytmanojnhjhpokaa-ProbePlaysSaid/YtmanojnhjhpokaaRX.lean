/- Contract of the reference path's Next: it turns the record as the Lean function of the same name does. Conditions: the path lies in one block that is known whole, its numbers are small. -/
import Derived.Test.YtmanojnhjhpokaaRN
import Derived.Deep.LoopGhost
import Derived.Deep.DeepCutAuto
import Derived.Deep.CutBlock
import Derived.StillTailTactics
import Derived.Deep.RegionHeld3
namespace Go.Proofs.Ytmanojnhjhpokaa.PB
set_option linter.unusedVariables false
set_option linter.unusedSimpArgs false
open Go.RowKit
set_option maxRecDepth 100000 in
set_option maxHeartbeats 16000000 in
theorem rnext_any (r : Rt) (g : Nat) (n : Int) (w : World) (h : Ri w g r) (hm : Rm r) (hq : ¬ r.late n → ¬ ((r.at' n).is = true ∧ n - (r.at' n).at_ < (r.at' n).wait) → Rm ((r.at' n).stepA n) ∧ Rm ((((r.at' n).stepA n).stepB n).stepC n) ∧ (((((r.at' n).stepA n).stepB n).stepC n).st = 1 ∨ ((((r.at' n).stepA n).stepB n).stepC n).st = 3 ∨ ((((r.at' n).stepA n).stepB n).stepC n).st = 4 ∨ ((((r.at' n).stepA n).stepB n).stepC n).low ≤ ((((r.at' n).stepA n).stepB n).stepC n).high) ∧ ((((r.at' n).stepA n).stepB n).stepC n).given + 1 ≤ 1125899906842624) (hu : 0 ≤ r.usize ∧ r.usize ≤ 65535) :
    Calls Try.prog 30 #[.pointer (some ⟨g, 0, none⟩), .int .i64 n] w fun e w' => e = .returned (.tuple #[.int .i64 (r.nextA n).1.1, .int .i64 (r.nextA n).1.2.1, .int .i64 (r.nextA n).1.2.2]) ∧ Put w w' g 70 (r.nextA n).2.cells := by
  have H := Lib.hid h
  clear h
  unfold Rt.nextA
  by_cases hl : r.late n
  · rw [if_pos hl]
    have HL := Lib.hid hl
    clear hl hm hq hu
    go_enter Try.func30, Try.ntmps30
    go_wp2_with (go_at_call 43; (with_reducible refine (rclock_no r g n _ H.out HL.out).mono ?_); rintro e w1 ⟨rfl, hp1⟩)
    go_ret3
    exact ⟨rfl, by (apply Put.to; (repeat (with_reducible first | apply Put.after hp1 | exact Put.refl H.out | apply Put.set_ | apply Put.drewN | apply Put.drew)); (first | (simp [Rt.cells, Rt.lost0, Rt.lost1, Rt.at', Rt.give, Rt.ackB, Rt.ackS, Rt.ackT]; done) | rfl))⟩
  · rw [if_neg hl]
    have hmR := hm.at' hl
    have HL := Lib.hid hl
    obtain ⟨R, hR⟩ : ∃ R, R = r.at' n := ⟨_, rfl⟩
    replace hu : 0 ≤ R.usize ∧ R.usize ≤ 65535 := by rw [hR]; exact hu
    rw [← hR] at hmR ⊢
    have HR := Lib.hid hR
    have hmax : 0 ≤ n ∧ n ≤ 1099511627776 := by have := hm.last; unfold Rt.late at hl; omega
    have hMR := Lib.hid hmR
    clear hl hR hm
    obtain ⟨z0, z1⟩ := hmR.at_
    obtain ⟨x0, x1⟩ := hmax
    by_cases hw : R.is = true ∧ n - R.at_ < R.wait
    · have hfin : R.next n = ((0, 0), R) := by unfold Rt.next; rw [if_pos hw]
      have HF := Lib.hid hfin
      have a1_t : R.is = true := hw.1
      have a2 : n - R.at_ < R.wait := hw.2
      have a2_t : decide (n - R.at_ < R.wait) = true := decide_eq_true a2
      clear hfin hw a2 hmR hq
      go_enter Try.func30, Try.ntmps30
      go_wp2_with (go_at_call 43; (with_reducible refine (rclock_as r R g n _ H.out HL.out HR.out).mono ?_); rintro e w1 ⟨rfl, hp1⟩; obtain ⟨c0, c1, c2, c3, c4, c5, c6, c7, c8, c9, c10, c11, c12, c13, c14, c15, c16, c17, c18, c19, c20⟩ := Ri.all hp1.blk; have hf1 : ∀ i, w1.frozen? ⟨g, i, none⟩ = false := (fun i => hp1.blk.frozen i))
      try (repeat (go_quiet (fail); try go_wp2_with fail))
      go_ret3
      exact ⟨(by rw [HF.out]; rfl), (by rw [HF.out]; exact by (apply Put.to; (repeat (with_reducible first | exact hp1 | exact Put.refl H.out | apply Put.set_ | apply Put.drewN | apply Put.drew)); (first | (simp [Rt.cells, Rt.lost0, Rt.lost1, Rt.at', Rt.give, Rt.ackB, Rt.ackS, Rt.ackT]; done) | rfl)))⟩
    · obtain ⟨hA, hC, hL, hG⟩ := hq HL.out (by rw [← HR.out]; exact hw)
      clear hq
      obtain ⟨R1, hR1⟩ : ∃ R1, R1 = R.stepA n := ⟨_, rfl⟩
      obtain ⟨R2, hR2⟩ : ∃ R2, R2 = R1.stepB n := ⟨_, rfl⟩
      obtain ⟨R3, hR3⟩ : ∃ R3, R3 = R2.stepC n := ⟨_, rfl⟩
      rw [← HR.out, ← hR1] at hA
      rw [← HR.out, ← hR1, ← hR2, ← hR3] at hC hL hG
      have hne : R.next n = R3.tell n := by unfold Rt.next; rw [if_neg hw, hR3, hR2, hR1]
      have HN := Lib.hid hne
      have H1 := Lib.hid hR1
      have H2 := Lib.hid hR2
      have H3 := Lib.hid hR3
      have HA := Lib.hid hA
      have HC := Lib.hid hC
      have HL3 := Lib.hid hL
      have hw2 : R.is = true → R.wait ≤ n - R.at_ := fun e => by rw [e] at hw; simp at hw; omega
      have HW := Lib.hid hw2
      have HU := Lib.hid hu
      clear hne hR1 hR2 hR3 hA hC hL hw hw2 hu hmR
      go_enter Try.func30, Try.ntmps30
      go_upto_if 17 with (go_at_call 43; (with_reducible refine (rclock_as r R g n _ H.out HL.out HR.out).mono ?_); rintro e w1 ⟨rfl, hp1⟩; obtain ⟨c0, c1, c2, c3, c4, c5, c6, c7, c8, c9, c10, c11, c12, c13, c14, c15, c16, c17, c18, c19, c20⟩ := Ri.all hp1.blk; have hf1 : ∀ i, w1.frozen? ⟨g, i, none⟩ = false := (fun i => hp1.blk.frozen i))
      have HP1 := Lib.hid hp1
      clear hp1
      generalize hbi : R.is = bi at c13 ⊢
      have HBI := Lib.hid hbi
      clear hbi
      go_cut [] (fun wx => Hid (Put w wx g 70 R1.cells))
      case first =>
        cases bi
        rotate_left
        · have hi : R.is = true := HBI.out
          have a2_t : decide (n - R.at_ < R.wait) = false := decide_eq_false (by have := HW.out hi; omega)
          have a2_u : R.wait ≤ n - R.at_ := HW.out hi
          have hs : R1 = R.lostU n := by rw [H1.out]; unfold Rt.stepA; rw [if_pos hi]
          have HS := Lib.hid hs
          clear hs hi
          go_wp2
          try (repeat (go_quiet (fail); try go_wp2_with fail))
          go_wp2_with (go_at_call 44; (with_reducible refine (rlost_calls R g n _ ?qis hMR.out HU.out).mono ?_); (case qis => first | exact HP1.out.blk | exact HP1.out.blk.drewN _ | exact HP1.out.blk.drew); rintro e w4 ⟨rfl, hp4⟩; rw [← HS.out] at hp4)
          go_meet
          case rel => exact Lib.hid (by (apply Put.to; (repeat (with_reducible first | apply Put.after hp4 | exact HP1.out | exact Put.refl H.out | apply Put.set_ | apply Put.drewN | apply Put.drew)); (first | (simp [Rt.cells, Rt.lost0, Rt.lost1, Rt.at', Rt.give, Rt.ackB, Rt.ackS, Rt.ackT]; done) | rfl)))
        · have hi : R.is = false := HBI.out
          have hs : R1 = R := by rw [H1.out]; unfold Rt.stepA; rw [if_neg (by rw [hi]; decide)]
          have HS := Lib.hid hs
          clear hs hi
          go_wp2
          go_meet
          case rel => rw [HS.out]; exact HP1
      case rest =>
      clear c0 c1 c2 c3 c4 c5 c6 c7 c8 c9 c10 c11 c12 c13 c14 c15 c16 c17 c18 c19 c20 hf1
      have HP := hcut
      clear hcut HP1
      obtain ⟨c0, c1, c2, c3, c4, c5, c6, c7, c8, c9, c10, c11, c12, c13, c14, c15, c16, c17, c18, c19, c20⟩ := Ri.all HP.out.blk
      have hf1 : ∀ i, wc.frozen? ⟨g, i, none⟩ = false := (fun i => HP.out.blk.frozen i)
      obtain ⟨s0, s1⟩ := HA.out.since
      obtain ⟨y0, y1⟩ := HA.out.most
      go_upto_region 8 with fail
      go_cut [64] (fun v wx => v = .bool (decide (R1.st = 3 ∧ R1.low < R1.most ∧ R1.raise ≤ n - R1.since)) ∧ Hid (Put w wx g 70 R1.cells))
      case first =>
        by_cases b1 : R1.st = 3
        · by_cases b2 : R1.low < R1.most
          · by_cases b3 : R1.raise ≤ n - R1.since
            · have hd : decide (R1.st = 3 ∧ R1.low < R1.most ∧ R1.raise ≤ n - R1.since) = true := decide_eq_true (⟨b1, b2, b3⟩)
              have HD := Lib.hid hd
              clear hd
              have b1_t : (R1.st == 3) = true := beq_iff_eq.2 b1
              have b1_u : (R1.st != 3) = false := bne_eq_false_iff_eq.2 b1
              clear b1
              have b2_t : decide (R1.low < R1.most) = true := decide_eq_true b2
              clear b2
              have b3_t : decide (R1.raise ≤ n - R1.since) = true := decide_eq_true b3
              clear b3
              go_quiet (fail)
              go_wp2
              go_meet
              case rel => exact ⟨by rw [HD.out], Lib.hid (by (apply Put.to; (repeat (with_reducible first | exact HP.out | exact Put.refl H.out | apply Put.set_ | apply Put.drewN | apply Put.drew)); (first | (simp [Rt.cells, Rt.lost0, Rt.lost1, Rt.at', Rt.give, Rt.ackB, Rt.ackS, Rt.ackT]; done) | rfl)))⟩
            · have hd : decide (R1.st = 3 ∧ R1.low < R1.most ∧ R1.raise ≤ n - R1.since) = false := decide_eq_false (fun k => b3 k.2.2)
              have HD := Lib.hid hd
              clear hd
              have b1_t : (R1.st == 3) = true := beq_iff_eq.2 b1
              have b1_u : (R1.st != 3) = false := bne_eq_false_iff_eq.2 b1
              clear b1
              have b2_t : decide (R1.low < R1.most) = true := decide_eq_true b2
              clear b2
              have b3_t : decide (R1.raise ≤ n - R1.since) = false := decide_eq_false b3
              have b3_u : n - R1.since < R1.raise := by omega
              clear b3
              go_quiet (fail)
              go_wp2
              go_meet
              case rel => exact ⟨by rw [HD.out], Lib.hid (by (apply Put.to; (repeat (with_reducible first | exact HP.out | exact Put.refl H.out | apply Put.set_ | apply Put.drewN | apply Put.drew)); (first | (simp [Rt.cells, Rt.lost0, Rt.lost1, Rt.at', Rt.give, Rt.ackB, Rt.ackS, Rt.ackT]; done) | rfl)))⟩
          · have hd : decide (R1.st = 3 ∧ R1.low < R1.most ∧ R1.raise ≤ n - R1.since) = false := decide_eq_false (fun k => b2 k.2.1)
            have HD := Lib.hid hd
            clear hd
            have b1_t : (R1.st == 3) = true := beq_iff_eq.2 b1
            have b1_u : (R1.st != 3) = false := bne_eq_false_iff_eq.2 b1
            clear b1
            have b2_t : decide (R1.low < R1.most) = false := decide_eq_false b2
            have b2_u : R1.most ≤ R1.low := by omega
            clear b2
            go_quiet (fail)
            go_wp2
            go_meet
            case rel => exact ⟨by rw [HD.out], Lib.hid (by (apply Put.to; (repeat (with_reducible first | exact HP.out | exact Put.refl H.out | apply Put.set_ | apply Put.drewN | apply Put.drew)); (first | (simp [Rt.cells, Rt.lost0, Rt.lost1, Rt.at', Rt.give, Rt.ackB, Rt.ackS, Rt.ackT]; done) | rfl)))⟩
        · have hd : decide (R1.st = 3 ∧ R1.low < R1.most ∧ R1.raise ≤ n - R1.since) = false := decide_eq_false (fun k => b1 k.1)
          have HD := Lib.hid hd
          clear hd
          have b1_t : (R1.st == 3) = false := beq_eq_false_iff_ne.2 b1
          have b1_u : (R1.st != 3) = true := bne_iff_ne.2 b1
          clear b1
          go_quiet (fail)
          go_wp2
          go_meet
          case rel => exact ⟨by rw [HD.out], Lib.hid (by (apply Put.to; (repeat (with_reducible first | exact HP.out | exact Put.refl H.out | apply Put.set_ | apply Put.drewN | apply Put.drew)); (first | (simp [Rt.cells, Rt.lost0, Rt.lost1, Rt.at', Rt.give, Rt.ackB, Rt.ackS, Rt.ackT]; done) | rfl)))⟩
      case rest =>
      clear c0 c1 c2 c3 c4 c5 c6 c7 c8 c9 c10 c11 c12 c13 c14 c15 c16 c17 c18 c19 c20 hf1
      clear HP
      obtain ⟨rfl, HP⟩ := hcut
      obtain ⟨c0, c1, c2, c3, c4, c5, c6, c7, c8, c9, c10, c11, c12, c13, c14, c15, c16, c17, c18, c19, c20⟩ := Ri.all HP.out.blk
      have hf1 : ∀ i, wc.frozen? ⟨g, i, none⟩ = false := (fun i => HP.out.blk.frozen i)
      go_upto_if 64 with fail
      obtain ⟨bb, hbb⟩ : ∃ bb, bb = decide (R1.st = 3 ∧ R1.low < R1.most ∧ R1.raise ≤ n - R1.since) := ⟨_, rfl⟩
      rw [← hbb]
      have HBB := Lib.hid hbb
      clear hbb
      go_cut [] (fun wx => Hid (Put w wx g 70 R2.cells))
      case first =>
        cases bb
        · have hs : R2 = R1 := by rw [H2.out]; unfold Rt.stepB; rw [if_neg (of_decide_eq_false HBB.out.symm)]
          have HS := Lib.hid hs
          clear hs
          go_wp2
          go_meet
          case rel => rw [HS.out]; exact HP
        · have hs : R2 = { R1 with st := 2, high := R1.most + 1, hint := 0 } := by rw [H2.out]; unfold Rt.stepB; rw [if_pos (of_decide_eq_true HBB.out.symm)]
          have HS := Lib.hid hs
          clear hs
          go_wp2
          try (repeat (go_quiet (fail); try go_wp2_with fail))
          go_meet
          case rel => rw [HS.out]; exact Lib.hid (by (apply Put.to; (repeat (with_reducible first | exact HP.out | exact Put.refl H.out | apply Put.set_ | apply Put.drewN | apply Put.drew)); (first | (simp [Rt.cells, Rt.lost0, Rt.lost1, Rt.at', Rt.give, Rt.ackB, Rt.ackS, Rt.ackT]; done) | rfl)))
      case rest =>
      clear c0 c1 c2 c3 c4 c5 c6 c7 c8 c9 c10 c11 c12 c13 c14 c15 c16 c17 c18 c19 c20 hf1
      clear HP HBB s0 s1
      have HP := hcut
      clear hcut
      obtain ⟨c0, c1, c2, c3, c4, c5, c6, c7, c8, c9, c10, c11, c12, c13, c14, c15, c16, c17, c18, c19, c20⟩ := Ri.all HP.out.blk
      have hf1 : ∀ i, wc.frozen? ⟨g, i, none⟩ = false := (fun i => HP.out.blk.frozen i)
      obtain ⟨s0, s1⟩ : 0 ≤ R2.since ∧ R2.since ≤ 1099511627776 := by rw [H2.out]; unfold Rt.stepB; split <;> exact HA.out.since
      go_upto_region 12 with fail
      go_cut [98] (fun v wx => v = .bool (decide (R2.st = 4 ∧ R2.raise ≤ n - R2.since)) ∧ Hid (Put w wx g 70 R2.cells))
      case first =>
        by_cases b1 : R2.st = 4
        · by_cases b3 : R2.raise ≤ n - R2.since
          · have hd : decide (R2.st = 4 ∧ R2.raise ≤ n - R2.since) = true := decide_eq_true (⟨b1, b3⟩)
            have HD := Lib.hid hd
            clear hd
            have b1_t : (R2.st == 4) = true := beq_iff_eq.2 b1
            have b1_u : (R2.st != 4) = false := bne_eq_false_iff_eq.2 b1
            clear b1
            have b3_t : decide (R2.raise ≤ n - R2.since) = true := decide_eq_true b3
            clear b3
            go_quiet (fail)
            go_wp2
            go_meet
            case rel => exact ⟨by rw [HD.out], Lib.hid (by (apply Put.to; (repeat (with_reducible first | exact HP.out | exact Put.refl H.out | apply Put.set_ | apply Put.drewN | apply Put.drew)); (first | (simp [Rt.cells, Rt.lost0, Rt.lost1, Rt.at', Rt.give, Rt.ackB, Rt.ackS, Rt.ackT]; done) | rfl)))⟩
          · have hd : decide (R2.st = 4 ∧ R2.raise ≤ n - R2.since) = false := decide_eq_false (fun k => b3 k.2)
            have HD := Lib.hid hd
            clear hd
            have b1_t : (R2.st == 4) = true := beq_iff_eq.2 b1
            have b1_u : (R2.st != 4) = false := bne_eq_false_iff_eq.2 b1
            clear b1
            have b3_t : decide (R2.raise ≤ n - R2.since) = false := decide_eq_false b3
            have b3_u : n - R2.since < R2.raise := by omega
            clear b3
            go_quiet (fail)
            go_wp2
            go_meet
            case rel => exact ⟨by rw [HD.out], Lib.hid (by (apply Put.to; (repeat (with_reducible first | exact HP.out | exact Put.refl H.out | apply Put.set_ | apply Put.drewN | apply Put.drew)); (first | (simp [Rt.cells, Rt.lost0, Rt.lost1, Rt.at', Rt.give, Rt.ackB, Rt.ackS, Rt.ackT]; done) | rfl)))⟩
        · have hd : decide (R2.st = 4 ∧ R2.raise ≤ n - R2.since) = false := decide_eq_false (fun k => b1 k.1)
          have HD := Lib.hid hd
          clear hd
          have b1_t : (R2.st == 4) = false := beq_eq_false_iff_ne.2 b1
          have b1_u : (R2.st != 4) = true := bne_iff_ne.2 b1
          clear b1
          go_quiet (fail)
          go_wp2
          go_meet
          case rel => exact ⟨by rw [HD.out], Lib.hid (by (apply Put.to; (repeat (with_reducible first | exact HP.out | exact Put.refl H.out | apply Put.set_ | apply Put.drewN | apply Put.drew)); (first | (simp [Rt.cells, Rt.lost0, Rt.lost1, Rt.at', Rt.give, Rt.ackB, Rt.ackS, Rt.ackT]; done) | rfl)))⟩
      case rest =>
      clear c0 c1 c2 c3 c4 c5 c6 c7 c8 c9 c10 c11 c12 c13 c14 c15 c16 c17 c18 c19 c20 hf1
      clear HP
      obtain ⟨rfl, HP⟩ := hcut
      obtain ⟨c0, c1, c2, c3, c4, c5, c6, c7, c8, c9, c10, c11, c12, c13, c14, c15, c16, c17, c18, c19, c20⟩ := Ri.all HP.out.blk
      have hf1 : ∀ i, wc.frozen? ⟨g, i, none⟩ = false := (fun i => HP.out.blk.frozen i)
      go_upto_if 98 with fail
      obtain ⟨bb, hbb⟩ : ∃ bb, bb = decide (R2.st = 4 ∧ R2.raise ≤ n - R2.since) := ⟨_, rfl⟩
      rw [← hbb]
      have HBB := Lib.hid hbb
      clear hbb
      go_cut [] (fun wx => Hid (Put w wx g 70 R3.cells))
      case first =>
        cases bb
        · have hs : R3 = R2 := by rw [H3.out]; unfold Rt.stepC; rw [if_neg (of_decide_eq_false HBB.out.symm)]
          have HS := Lib.hid hs
          clear hs
          go_wp2
          go_meet
          case rel => rw [HS.out]; exact HP
        · have hs : R3 = { R2 with st := 1 } := by rw [H3.out]; unfold Rt.stepC; rw [if_pos (of_decide_eq_true HBB.out.symm)]
          have HS := Lib.hid hs
          clear hs
          go_wp2
          try (repeat (go_quiet (fail); try go_wp2_with fail))
          go_meet
          case rel => rw [HS.out]; exact Lib.hid (by (apply Put.to; (repeat (with_reducible first | exact HP.out | exact Put.refl H.out | apply Put.set_ | apply Put.drewN | apply Put.drew)); (first | (simp [Rt.cells, Rt.lost0, Rt.lost1, Rt.at', Rt.give, Rt.ackB, Rt.ackS, Rt.ackT]; done) | rfl)))
      case rest =>
      clear c0 c1 c2 c3 c4 c5 c6 c7 c8 c9 c10 c11 c12 c13 c14 c15 c16 c17 c18 c19 c20 hf1
      clear HP HBB s0 s1
      have HP := hcut
      clear hcut
      obtain ⟨c0, c1, c2, c3, c4, c5, c6, c7, c8, c9, c10, c11, c12, c13, c14, c15, c16, c17, c18, c19, c20⟩ := Ri.all HP.out.blk
      have hf1 : ∀ i, wc.frozen? ⟨g, i, none⟩ = false := (fun i => HP.out.blk.frozen i)
      obtain ⟨q0, q1⟩ := HC.out.given
      by_cases e3 : R3.st = 3
      · have hfin : R.next n = ((0, 0), R3) := by rw [HN.out]; unfold Rt.tell; rw [if_pos (.inl e3)]
        have HF := Lib.hid hfin
        clear hfin
        have e3_t : (R3.st == 3) = true := beq_iff_eq.2 e3
        have e3_u : (R3.st != 3) = false := bne_eq_false_iff_eq.2 e3
        clear e3
        go_wp2
        try (repeat (go_quiet (fail); try go_wp2_with fail))
        go_ret3
        exact ⟨(by rw [HF.out]; rfl), (by rw [HF.out]; exact by (apply Put.to; (repeat (with_reducible first | exact HP.out | exact Put.refl H.out | apply Put.set_ | apply Put.drewN | apply Put.drew)); (first | (simp [Rt.cells, Rt.lost0, Rt.lost1, Rt.at', Rt.give, Rt.ackB, Rt.ackS, Rt.ackT]; done) | rfl)))⟩
      · by_cases e4 : R3.st = 4
        · have hfin : R.next n = ((0, 0), R3) := by rw [HN.out]; unfold Rt.tell; rw [if_pos (.inr e4)]
          have HF := Lib.hid hfin
          clear hfin
          have e3_t : (R3.st == 3) = false := beq_eq_false_iff_ne.2 e3
          have e3_u : (R3.st != 3) = true := bne_iff_ne.2 e3
          clear e3
          have e4_t : (R3.st == 4) = true := beq_iff_eq.2 e4
          have e4_u : (R3.st != 4) = false := bne_eq_false_iff_eq.2 e4
          clear e4
          go_wp2
          try (repeat (go_quiet (fail); try go_wp2_with fail))
          go_ret3
          exact ⟨(by rw [HF.out]; rfl), (by rw [HF.out]; exact by (apply Put.to; (repeat (with_reducible first | exact HP.out | exact Put.refl H.out | apply Put.set_ | apply Put.drewN | apply Put.drew)); (first | (simp [Rt.cells, Rt.lost0, Rt.lost1, Rt.at', Rt.give, Rt.ackB, Rt.ackS, Rt.ackT]; done) | rfl)))⟩
        · have hfin : R.next n = ((R3.trial, R3.given + 1), R3.give n) := by rw [HN.out]; unfold Rt.tell; rw [if_neg (fun k => k.elim e3 e4)]
          have hlh : R3.st = 1 ∨ R3.low ≤ R3.high := HL3.out.elim .inl (fun h => h.elim (fun h => absurd h e3) (fun h => h.elim (fun h => absurd h e4) .inr))
          obtain ⟨R4, hR4⟩ : ∃ R4 : Rt, R4 = { R3 with given := R3.given + 1 } := ⟨_, rfl⟩
          have HR4 := Lib.hid hR4
          have HLH : Hid (R4.st = 1 ∨ R4.low ≤ R4.high) := Lib.hid (by rw [hR4]; exact hlh)
          have HM4 : Hid (Rm R4) := Lib.hid (by rw [hR4]; exact ⟨HC.out.most, HC.out.low, HC.out.high, HC.out.tries, HC.out.losses, by have := HC.out.given; show 0 ≤ R3.given + 1 ∧ R3.given + 1 ≤ 1125899906842624; omega, HC.out.at_, HC.out.since, HC.out.last⟩)
          have HF := Lib.hid hfin
          clear hfin hlh hR4
          have e3_t : (R3.st == 3) = false := beq_eq_false_iff_ne.2 e3
          have e3_u : (R3.st != 3) = true := bne_iff_ne.2 e3
          clear e3
          have e4_t : (R3.st == 4) = false := beq_eq_false_iff_ne.2 e4
          have e4_u : (R3.st != 4) = true := bne_iff_ne.2 e4
          clear e4
          go_upto_region 17 with fail
          apply rnamed (w := w) (g := g) (s := R4)
          (repeat (with_reducible first | exact HP.out | exact Put.refl H.out | apply Put.set_ | apply Put.drewN | apply Put.drew)); (first | (rw [HR4.out]; simp [Rt.cells, Rt.lost0, Rt.lost1, Rt.at', Rt.give, Rt.ackB, Rt.ackS, Rt.ackT]; done) | (rw [HR4.out]; rfl))
          intro w5 hp5
          clear c0 c1 c2 c3 c4 c5 c6 c7 c8 c9 c10 c11 c12 c13 c14 c15 c16 c17 c18 c19 c20 hf1
          clear HP
          obtain ⟨c0, c1, c2, c3, c4, c5, c6, c7, c8, c9, c10, c11, c12, c13, c14, c15, c16, c17, c18, c19, c20⟩ := Ri.all hp5.blk
          have hf1 : ∀ i, w5.frozen? ⟨g, i, none⟩ = false := (fun i => hp5.blk.frozen i)
          have HP5 := Lib.hid hp5
          clear hp5
          obtain ⟨R5, hR5⟩ : ∃ R5 : Rt, R5 = { R4 with is := true, number := R4.given, usize := R4.trial, at_ := n } := ⟨_, rfl⟩
          have HR5 := Lib.hid hR5
          clear hR5
          go_region_with (go_at_call 45; (with_reducible refine (rtrial_calls R4 g _ ?q1 HM4.out HLH.out).mono ?_); (case q1 => first | exact HP5.out.blk | exact HP5.out.blk.drew | exact HP5.out.blk.drewN _); rintro e w6 ⟨rfl, k6, rfl⟩)
          all_goals (clear c0 c1 c2 c3 c4 c5 c6 c7 c8 c9 c10 c11 c12 c13 c14 c15 c16 c17 c18 c19 c20 hf1; go_upto_region 18 with fail; (apply rnamed (w := w) (g := g) (s := R5)); ((repeat (with_reducible first | exact HP5.out | exact Put.refl H.out | apply Put.set_ | apply Put.drewN | apply Put.drew))); (first | (rw [HR5.out]; simp [Rt.cells, Rt.lost0, Rt.lost1, Rt.at', Rt.give, Rt.ackB, Rt.ackS, Rt.ackT]; done) | (rw [HR5.out]; rfl)); intro w7 hp7; obtain ⟨c0, c1, c2, c3, c4, c5, c6, c7, c8, c9, c10, c11, c12, c13, c14, c15, c16, c17, c18, c19, c20⟩ := Ri.all hp7.blk; have hf7 : ∀ i, w7.frozen? ⟨g, i, none⟩ = false := (fun i => hp7.blk.frozen i); have HP7 := Lib.hid hp7; clear hp7; go_quiet (fail); go_wp2_with fail; go_ret3; exact ⟨(by rw [HF.out, HR5.out, HR4.out]; rfl), (by rw [HF.out]; apply Put.to (cs := R5.cells); (repeat (with_reducible first | exact HP7.out | apply Put.drewN | apply Put.drew)); rw [HR5.out, HR4.out]; rfl)⟩)
end Go.Proofs.Ytmanojnhjhpokaa.PB
