/- Contracts of the reference path's Acked and TooBig: each turns the record as the Lean function of the same name does. Conditions: the path lies in one block that is known whole, its numbers are small. -/
import Derived.Test.YtmanojnhjhpokaaRN
namespace Go.Proofs.Ytmanojnhjhpokaa.PB
set_option linter.unusedVariables false
set_option linter.unusedSimpArgs false
open Go.RowKit
theorem Rm.ackB {r : Rt} (hm : Rm r) (hb : 0 ≤ r.base ∧ r.base ≤ 65535) : Rm r.ackB :=
  ⟨hm.most, hb, by have := hm.most; show 0 ≤ r.most + 1 ∧ r.most + 1 ≤ 65536; omega, ⟨Int.le_refl _, (show (0 : Int) ≤ 65535 from by decide)⟩, ⟨Int.le_refl _, (show (0 : Int) ≤ 65535 from by decide)⟩, hm.given, hm.at_, hm.since, hm.last⟩
theorem Rm.ackS {r : Rt} (hm : Rm r) (hu : 0 ≤ r.usize ∧ r.usize ≤ 65535) : Rm r.ackS :=
  ⟨hm.most, hu, hm.high, ⟨Int.le_refl _, (show (0 : Int) ≤ 65535 from by decide)⟩, ⟨Int.le_refl _, (show (0 : Int) ≤ 65535 from by decide)⟩, hm.given, hm.at_, hm.since, hm.last⟩
theorem Rm.ackT {r : Rt} (hm : Rm r) (hu : 0 ≤ r.usize ∧ r.usize ≤ 65535) : Rm r.ackT :=
  ⟨hm.most, hu, hm.high, ⟨Int.le_refl _, (show (0 : Int) ≤ 65535 from by decide)⟩, ⟨Int.le_refl _, (show (0 : Int) ≤ 65535 from by decide)⟩, hm.given, hm.at_, hm.since, hm.last⟩
set_option maxRecDepth 100000 in
set_option maxHeartbeats 4000000 in
theorem racked_any (r : Rt) (g : Nat) (p n : Int) (w : World) (h : Ri w g r) (hm : Rm r) (hb : 0 ≤ r.base ∧ r.base ≤ 65535) (hu : 0 ≤ r.usize ∧ r.usize ≤ 65535) :
    Calls Try.prog 31 #[.pointer (some ⟨g, 0, none⟩), .int .i64 p, .int .i64 n] w fun e w' => e = .returned (.tuple #[.bool (r.ackedA p n).1.1, .int .i64 (r.ackedA p n).1.2]) ∧ Put w w' g 70 (r.ackedA p n).2.cells := by
  have H := Lib.hid h
  clear h
  unfold Rt.ackedA
  by_cases hl : r.late n
  · rw [if_pos hl]
    have HL := Lib.hid hl
    clear hl hm hb hu
    go_enter Try.func31, Try.ntmps31
    go_wp2_with (go_at_call 43; (with_reducible refine (rclock_no r g n _ H.out HL.out).mono ?_); rintro e w1 ⟨rfl, hp1⟩)
    go_ret2
    exact ⟨rfl, by (apply Put.to; (repeat (with_reducible first | apply Put.after hp1 | exact Put.refl H.out | apply Put.set_ | apply Put.drewN | apply Put.drew)); (first | (simp [Rt.cells, Rt.lost0, Rt.lost1, Rt.at', Rt.give, Rt.ackB, Rt.ackS, Rt.ackT]; done) | rfl))⟩
  · rw [if_neg hl]
    have hmR := hm.at' hl
    have HL := Lib.hid hl
    obtain ⟨R, hR⟩ : ∃ R, R = r.at' n := ⟨_, rfl⟩
    have hbR : 0 ≤ R.base ∧ R.base ≤ 65535 := by rw [hR]; exact hb
    have huR : 0 ≤ R.usize ∧ R.usize ≤ 65535 := by rw [hR]; exact hu
    rw [← hR] at hmR ⊢
    have HR := Lib.hid hR
    have hmax : 0 ≤ n ∧ n ≤ 1099511627776 := by have := hm.last; unfold Rt.late at hl; omega
    have hMR := Lib.hid hmR
    clear hl hR hm hb hu
    have hB := Lib.hid (hmR.ackB hbR)
    have hS := Lib.hid (hmR.ackS huR)
    have hT := Lib.hid (hmR.ackT huR)
    obtain ⟨u0, u1⟩ := huR
    obtain ⟨b0, b1⟩ := hbR
    obtain ⟨z0, z1⟩ := hMR.out.high
    obtain ⟨y0, y1⟩ := hMR.out.most
    have huR : True := trivial
    by_cases a1 : R.is = true
    · by_cases a2 : R.number = p
      · by_cases a3 : R.st = 1
        · have hfin : R.acked p n = (true, R.ackB.settle n) := by unfold Rt.acked; rw [if_pos (show R.is = true ∧ R.number = p from ⟨a1, a2⟩)]; rw [if_pos a3]
          have HF := Lib.hid hfin
          clear hfin
          have a1_t : R.is = true := a1
          have a2_t : (R.number == p) = true := beq_iff_eq.2 a2
          have a2_u : (R.number != p) = false := bne_eq_false_iff_eq.2 a2
          clear a2
          have a3_t : (R.st == 1) = true := beq_iff_eq.2 a3
          have a3_u : (R.st != 1) = false := bne_eq_false_iff_eq.2 a3
          clear a3
          clear hmR huR
          go_enter Try.func31, Try.ntmps31
          go_wp2_with (go_at_call 43; (with_reducible refine (rclock_as r R g n _ H.out HL.out HR.out).mono ?_); rintro e w1 ⟨rfl, hp1⟩; obtain ⟨c0, c1, c2, c3, c4, c5, c6, c7, c8, c9, c10, c11, c12, c13, c14, c15, c16, c17, c18, c19, c20⟩ := Ri.all hp1.blk; have hf1 : ∀ i, w1.frozen? ⟨g, i, none⟩ = false := (fun i => hp1.blk.frozen i))
          try (repeat (go_quiet (fail); try go_wp2_with fail))
          try go_wp2_with fail
          go_wp2_with (go_at_call 46; (with_reducible refine (rsettle_calls R.ackB g n _ ?qis hB.out).mono ?_); (case qis => refine Put.blk (w := w) (Put.to (cs' := (R.ackB).cells) (by (repeat (with_reducible first | exact hp1 | exact Put.refl H.out | apply Put.set_ | apply Put.drewN | apply Put.drew))) (by first | (simp [Rt.cells, Rt.lost0, Rt.lost1, Rt.at', Rt.give, Rt.ackB, Rt.ackS, Rt.ackT]; done) | rfl))); rintro e w4 ⟨rfl, hp4⟩)
          go_ret2
          exact ⟨(by rw [HF.out]; rfl), (by rw [HF.out]; exact by (apply Put.to; (repeat (with_reducible first | apply Put.after hp4 | exact hp1 | exact Put.refl H.out | apply Put.set_ | apply Put.drewN | apply Put.drew)); (first | (simp [Rt.cells, Rt.lost0, Rt.lost1, Rt.at', Rt.give, Rt.ackB, Rt.ackS, Rt.ackT]; done) | rfl)))⟩
        · by_cases a4 : R.hint = R.usize
          · by_cases a5 : R.told = true
            · by_cases a6 : R.usize < R.high - 1
              · have hfin : R.acked p n = (true, R.ackT.settle n) := by unfold Rt.acked; rw [if_pos (show R.is = true ∧ R.number = p from ⟨a1, a2⟩)]; rw [if_neg a3, if_pos (show R.hint = R.usize ∧ R.told = true ∧ R.usize < R.high - 1 from ⟨a4, a5, a6⟩)]
                have HF := Lib.hid hfin
                clear hfin
                have a1_t : R.is = true := a1
                have a2_t : (R.number == p) = true := beq_iff_eq.2 a2
                have a2_u : (R.number != p) = false := bne_eq_false_iff_eq.2 a2
                clear a2
                have a3_t : (R.st == 1) = false := beq_eq_false_iff_ne.2 a3
                have a3_u : (R.st != 1) = true := bne_iff_ne.2 a3
                clear a3
                have a4_t : (R.hint == R.usize) = true := beq_iff_eq.2 a4
                have a4_u : (R.hint != R.usize) = false := bne_eq_false_iff_eq.2 a4
                clear a4
                have a5_t : R.told = true := a5
                have a6_t : decide (R.usize < R.high - 1) = true := decide_eq_true a6
                clear a6
                clear hmR huR
                go_enter Try.func31, Try.ntmps31
                go_wp2_with (go_at_call 43; (with_reducible refine (rclock_as r R g n _ H.out HL.out HR.out).mono ?_); rintro e w1 ⟨rfl, hp1⟩; obtain ⟨c0, c1, c2, c3, c4, c5, c6, c7, c8, c9, c10, c11, c12, c13, c14, c15, c16, c17, c18, c19, c20⟩ := Ri.all hp1.blk; have hf1 : ∀ i, w1.frozen? ⟨g, i, none⟩ = false := (fun i => hp1.blk.frozen i))
                try (repeat (go_quiet (fail); try go_wp2_with fail))
                try go_wp2_with fail
                go_wp2_with (go_at_call 46; (with_reducible refine (rsettle_calls R.ackT g n _ ?qis hT.out).mono ?_); (case qis => refine Put.blk (w := w) (Put.to (cs' := (R.ackT).cells) (by (repeat (with_reducible first | exact hp1 | exact Put.refl H.out | apply Put.set_ | apply Put.drewN | apply Put.drew))) (by first | (simp [Rt.cells, Rt.lost0, Rt.lost1, Rt.at', Rt.give, Rt.ackB, Rt.ackS, Rt.ackT]; done) | rfl))); rintro e w4 ⟨rfl, hp4⟩)
                go_ret2
                exact ⟨(by rw [HF.out]; rfl), (by rw [HF.out]; exact by (apply Put.to; (repeat (with_reducible first | apply Put.after hp4 | exact hp1 | exact Put.refl H.out | apply Put.set_ | apply Put.drewN | apply Put.drew)); (first | (simp [Rt.cells, Rt.lost0, Rt.lost1, Rt.at', Rt.give, Rt.ackB, Rt.ackS, Rt.ackT]; done) | rfl)))⟩
              · have hfin : R.acked p n = (true, R.ackS.settle n) := by unfold Rt.acked; rw [if_pos (show R.is = true ∧ R.number = p from ⟨a1, a2⟩)]; rw [if_neg a3, if_neg (show ¬ (R.hint = R.usize ∧ R.told = true ∧ R.usize < R.high - 1) from fun k => a6 k.2.2)]
                have HF := Lib.hid hfin
                clear hfin
                have a1_t : R.is = true := a1
                have a2_t : (R.number == p) = true := beq_iff_eq.2 a2
                have a2_u : (R.number != p) = false := bne_eq_false_iff_eq.2 a2
                clear a2
                have a3_t : (R.st == 1) = false := beq_eq_false_iff_ne.2 a3
                have a3_u : (R.st != 1) = true := bne_iff_ne.2 a3
                clear a3
                have a4_t : (R.hint == R.usize) = true := beq_iff_eq.2 a4
                have a4_u : (R.hint != R.usize) = false := bne_eq_false_iff_eq.2 a4
                clear a4
                have a5_t : R.told = true := a5
                have a6_t : decide (R.usize < R.high - 1) = false := decide_eq_false a6
                have a6_u : R.high - 1 ≤ R.usize := by omega
                clear a6
                clear hmR huR
                go_enter Try.func31, Try.ntmps31
                go_wp2_with (go_at_call 43; (with_reducible refine (rclock_as r R g n _ H.out HL.out HR.out).mono ?_); rintro e w1 ⟨rfl, hp1⟩; obtain ⟨c0, c1, c2, c3, c4, c5, c6, c7, c8, c9, c10, c11, c12, c13, c14, c15, c16, c17, c18, c19, c20⟩ := Ri.all hp1.blk; have hf1 : ∀ i, w1.frozen? ⟨g, i, none⟩ = false := (fun i => hp1.blk.frozen i))
                try (repeat (go_quiet (fail); try go_wp2_with fail))
                try go_wp2_with fail
                go_wp2_with (go_at_call 46; (with_reducible refine (rsettle_calls R.ackS g n _ ?qis hS.out).mono ?_); (case qis => refine Put.blk (w := w) (Put.to (cs' := (R.ackS).cells) (by (repeat (with_reducible first | exact hp1 | exact Put.refl H.out | apply Put.set_ | apply Put.drewN | apply Put.drew))) (by first | (simp [Rt.cells, Rt.lost0, Rt.lost1, Rt.at', Rt.give, Rt.ackB, Rt.ackS, Rt.ackT]; done) | rfl))); rintro e w4 ⟨rfl, hp4⟩)
                go_ret2
                exact ⟨(by rw [HF.out]; rfl), (by rw [HF.out]; exact by (apply Put.to; (repeat (with_reducible first | apply Put.after hp4 | exact hp1 | exact Put.refl H.out | apply Put.set_ | apply Put.drewN | apply Put.drew)); (first | (simp [Rt.cells, Rt.lost0, Rt.lost1, Rt.at', Rt.give, Rt.ackB, Rt.ackS, Rt.ackT]; done) | rfl)))⟩
            · have hfin : R.acked p n = (true, R.ackS.settle n) := by unfold Rt.acked; rw [if_pos (show R.is = true ∧ R.number = p from ⟨a1, a2⟩)]; rw [if_neg a3, if_neg (show ¬ (R.hint = R.usize ∧ R.told = true ∧ R.usize < R.high - 1) from fun k => a5 k.2.1)]
              have HF := Lib.hid hfin
              clear hfin
              have a1_t : R.is = true := a1
              have a2_t : (R.number == p) = true := beq_iff_eq.2 a2
              have a2_u : (R.number != p) = false := bne_eq_false_iff_eq.2 a2
              clear a2
              have a3_t : (R.st == 1) = false := beq_eq_false_iff_ne.2 a3
              have a3_u : (R.st != 1) = true := bne_iff_ne.2 a3
              clear a3
              have a4_t : (R.hint == R.usize) = true := beq_iff_eq.2 a4
              have a4_u : (R.hint != R.usize) = false := bne_eq_false_iff_eq.2 a4
              clear a4
              have a5_t : R.told = false := Bool.eq_false_iff.2 a5
              clear hmR huR
              go_enter Try.func31, Try.ntmps31
              go_wp2_with (go_at_call 43; (with_reducible refine (rclock_as r R g n _ H.out HL.out HR.out).mono ?_); rintro e w1 ⟨rfl, hp1⟩; obtain ⟨c0, c1, c2, c3, c4, c5, c6, c7, c8, c9, c10, c11, c12, c13, c14, c15, c16, c17, c18, c19, c20⟩ := Ri.all hp1.blk; have hf1 : ∀ i, w1.frozen? ⟨g, i, none⟩ = false := (fun i => hp1.blk.frozen i))
              try (repeat (go_quiet (fail); try go_wp2_with fail))
              try go_wp2_with fail
              go_wp2_with (go_at_call 46; (with_reducible refine (rsettle_calls R.ackS g n _ ?qis hS.out).mono ?_); (case qis => refine Put.blk (w := w) (Put.to (cs' := (R.ackS).cells) (by (repeat (with_reducible first | exact hp1 | exact Put.refl H.out | apply Put.set_ | apply Put.drewN | apply Put.drew))) (by first | (simp [Rt.cells, Rt.lost0, Rt.lost1, Rt.at', Rt.give, Rt.ackB, Rt.ackS, Rt.ackT]; done) | rfl))); rintro e w4 ⟨rfl, hp4⟩)
              go_ret2
              exact ⟨(by rw [HF.out]; rfl), (by rw [HF.out]; exact by (apply Put.to; (repeat (with_reducible first | apply Put.after hp4 | exact hp1 | exact Put.refl H.out | apply Put.set_ | apply Put.drewN | apply Put.drew)); (first | (simp [Rt.cells, Rt.lost0, Rt.lost1, Rt.at', Rt.give, Rt.ackB, Rt.ackS, Rt.ackT]; done) | rfl)))⟩
          · have hfin : R.acked p n = (true, R.ackS.settle n) := by unfold Rt.acked; rw [if_pos (show R.is = true ∧ R.number = p from ⟨a1, a2⟩)]; rw [if_neg a3, if_neg (show ¬ (R.hint = R.usize ∧ R.told = true ∧ R.usize < R.high - 1) from fun k => a4 k.1)]
            have HF := Lib.hid hfin
            clear hfin
            have a1_t : R.is = true := a1
            have a2_t : (R.number == p) = true := beq_iff_eq.2 a2
            have a2_u : (R.number != p) = false := bne_eq_false_iff_eq.2 a2
            clear a2
            have a3_t : (R.st == 1) = false := beq_eq_false_iff_ne.2 a3
            have a3_u : (R.st != 1) = true := bne_iff_ne.2 a3
            clear a3
            have a4_t : (R.hint == R.usize) = false := beq_eq_false_iff_ne.2 a4
            have a4_u : (R.hint != R.usize) = true := bne_iff_ne.2 a4
            clear a4
            clear hmR huR
            go_enter Try.func31, Try.ntmps31
            go_wp2_with (go_at_call 43; (with_reducible refine (rclock_as r R g n _ H.out HL.out HR.out).mono ?_); rintro e w1 ⟨rfl, hp1⟩; obtain ⟨c0, c1, c2, c3, c4, c5, c6, c7, c8, c9, c10, c11, c12, c13, c14, c15, c16, c17, c18, c19, c20⟩ := Ri.all hp1.blk; have hf1 : ∀ i, w1.frozen? ⟨g, i, none⟩ = false := (fun i => hp1.blk.frozen i))
            try (repeat (go_quiet (fail); try go_wp2_with fail))
            try go_wp2_with fail
            go_wp2_with (go_at_call 46; (with_reducible refine (rsettle_calls R.ackS g n _ ?qis hS.out).mono ?_); (case qis => refine Put.blk (w := w) (Put.to (cs' := (R.ackS).cells) (by (repeat (with_reducible first | exact hp1 | exact Put.refl H.out | apply Put.set_ | apply Put.drewN | apply Put.drew))) (by first | (simp [Rt.cells, Rt.lost0, Rt.lost1, Rt.at', Rt.give, Rt.ackB, Rt.ackS, Rt.ackT]; done) | rfl))); rintro e w4 ⟨rfl, hp4⟩)
            go_ret2
            exact ⟨(by rw [HF.out]; rfl), (by rw [HF.out]; exact by (apply Put.to; (repeat (with_reducible first | apply Put.after hp4 | exact hp1 | exact Put.refl H.out | apply Put.set_ | apply Put.drewN | apply Put.drew)); (first | (simp [Rt.cells, Rt.lost0, Rt.lost1, Rt.at', Rt.give, Rt.ackB, Rt.ackS, Rt.ackT]; done) | rfl)))⟩
      · have hfin : R.acked p n = (false, R) := by unfold Rt.acked; rw [if_neg (show ¬ (R.is = true ∧ R.number = p) from fun k => a2 k.2)]
        have HF := Lib.hid hfin
        clear hfin
        have a1_t : R.is = true := a1
        have a2_t : (R.number == p) = false := beq_eq_false_iff_ne.2 a2
        have a2_u : (R.number != p) = true := bne_iff_ne.2 a2
        clear a2
        clear hmR huR
        go_enter Try.func31, Try.ntmps31
        go_wp2_with (go_at_call 43; (with_reducible refine (rclock_as r R g n _ H.out HL.out HR.out).mono ?_); rintro e w1 ⟨rfl, hp1⟩; obtain ⟨c0, c1, c2, c3, c4, c5, c6, c7, c8, c9, c10, c11, c12, c13, c14, c15, c16, c17, c18, c19, c20⟩ := Ri.all hp1.blk; have hf1 : ∀ i, w1.frozen? ⟨g, i, none⟩ = false := (fun i => hp1.blk.frozen i))
        try (repeat (go_quiet (fail); try go_wp2_with fail))
        go_ret2
        exact ⟨(by rw [HF.out]; rfl), (by rw [HF.out]; exact by (apply Put.to; (repeat (with_reducible first | exact hp1 | exact Put.refl H.out | apply Put.set_ | apply Put.drewN | apply Put.drew)); (first | (simp [Rt.cells, Rt.lost0, Rt.lost1, Rt.at', Rt.give, Rt.ackB, Rt.ackS, Rt.ackT]; done) | rfl)))⟩
    · have hfin : R.acked p n = (false, R) := by unfold Rt.acked; rw [if_neg (show ¬ (R.is = true ∧ R.number = p) from fun k => a1 k.1)]
      have HF := Lib.hid hfin
      clear hfin
      have a1_t : R.is = false := Bool.eq_false_iff.2 a1
      clear hmR huR
      go_enter Try.func31, Try.ntmps31
      go_wp2_with (go_at_call 43; (with_reducible refine (rclock_as r R g n _ H.out HL.out HR.out).mono ?_); rintro e w1 ⟨rfl, hp1⟩; obtain ⟨c0, c1, c2, c3, c4, c5, c6, c7, c8, c9, c10, c11, c12, c13, c14, c15, c16, c17, c18, c19, c20⟩ := Ri.all hp1.blk; have hf1 : ∀ i, w1.frozen? ⟨g, i, none⟩ = false := (fun i => hp1.blk.frozen i))
      try (repeat (go_quiet (fail); try go_wp2_with fail))
      go_ret2
      exact ⟨(by rw [HF.out]; rfl), (by rw [HF.out]; exact by (apply Put.to; (repeat (with_reducible first | exact hp1 | exact Put.refl H.out | apply Put.set_ | apply Put.drewN | apply Put.drew)); (first | (simp [Rt.cells, Rt.lost0, Rt.lost1, Rt.at', Rt.give, Rt.ackB, Rt.ackS, Rt.ackT]; done) | rfl)))⟩
end Go.Proofs.Ytmanojnhjhpokaa.PB
