/- Contracts of the reference path's Acked and TooBig: each turns the record as the Lean function of the same name does. Conditions: the path lies in one block that is known whole, its numbers are small. -/
import Derived.Test.YtmanojnhjhpokaaRN
namespace Go.Proofs.Ytmanojnhjhpokaa.PB
set_option linter.unusedVariables false
set_option linter.unusedSimpArgs false
open Go.RowKit
set_option maxRecDepth 100000 in
set_option maxHeartbeats 4000000 in
theorem rtooBig_any (r : Rt) (g : Nat) (p m n : Int) (w : World) (h : Ri w g r) (hm : Rm r) (hb : 0 ≤ r.base ∧ r.base ≤ 65535) (hu : 0 ≤ r.usize ∧ r.usize ≤ 65535) :
    Calls Try.prog 32 #[.pointer (some ⟨g, 0, none⟩), .int .i64 p, .int .i64 m, .int .i64 n] w fun e w' => e = .returned (.tuple #[.bool (r.tooBigA p m n).1.1, .int .i64 (r.tooBigA p m n).1.2]) ∧ Put w w' g 70 (r.tooBigA p m n).2.cells := by
  have H := Lib.hid h
  clear h
  unfold Rt.tooBigA
  by_cases hl : r.late n
  · rw [if_pos hl]
    have HL := Lib.hid hl
    clear hl hm hb hu
    go_enter Try.func32, Try.ntmps32
    go_wp2_with (go_at_call 43; (with_reducible refine (rclock_no r g n _ H.out HL.out).mono ?_); rintro e w1 ⟨rfl, hp1⟩)
    go_ret2
    exact ⟨rfl, by (apply Put.to; (repeat (with_reducible first | apply Put.after hp1 | exact Put.refl H.out | apply Put.set_ | apply Put.drewN | apply Put.drew)); (first | (simp [Rt.cells, Rt.lost0, Rt.lost1, Rt.at', Rt.give, Rt.ackB, Rt.ackS, Rt.ackT]; done) | rfl))⟩
  · rw [if_neg hl]
    have hmR := hm.at' hl
    have HL := Lib.hid hl
    obtain ⟨R, hR⟩ : ∃ R, R = r.at' n := ⟨_, rfl⟩
    have hbR : 0 ≤ R.base ∧ R.base ≤ 65535 := by rw [hR]; exact hb
    have huR : 0 ≤ R.usize ∧ R.usize ≤ 65535 := by rw [hR]; exact hu
    rw [← hR] at hmR ⊢
    have HR := Lib.hid hR
    have hmax : 0 ≤ n ∧ n ≤ 1099511627776 := by have := hm.last; unfold Rt.late at hl; omega
    have hMR := Lib.hid hmR
    clear hl hR hm hb hu
    have HU := Lib.hid huR
    obtain ⟨u0, u1⟩ := huR
    obtain ⟨b0, b1⟩ := hbR
    obtain ⟨z0, z1⟩ := hMR.out.high
    obtain ⟨y0, y1⟩ := hMR.out.most
    have huR : True := trivial
    by_cases a1 : R.is = true
    · by_cases a2 : R.number = p
      · by_cases a3 : m < floorOf R.v
        · have hfin : R.tooBig p m n = (false, R) := by unfold Rt.tooBig; rw [if_neg (show ¬ (R.is = true ∧ R.number = p ∧ floorOf R.v ≤ m ∧ m < R.usize) from fun k => by omega)]
          have HF := Lib.hid hfin
          clear hfin
          have a1_t : R.is = true := a1
          have a2_t : (R.number == p) = true := beq_iff_eq.2 a2
          have a2_u : (R.number != p) = false := bne_eq_false_iff_eq.2 a2
          clear a2
          have a3_t : decide (m < floorOf R.v) = true := decide_eq_true a3
          clear a3
          clear hmR huR
          go_enter Try.func32, Try.ntmps32
          go_wp2_with (first | (go_at_call 43; (with_reducible refine (rclock_as r R g n _ H.out HL.out HR.out).mono ?_); rintro e w1 ⟨rfl, hp1⟩; obtain ⟨c0, c1, c2, c3, c4, c5, c6, c7, c8, c9, c10, c11, c12, c13, c14, c15, c16, c17, c18, c19, c20⟩ := Ri.all hp1.blk; have hf1 : ∀ i, w1.frozen? ⟨g, i, none⟩ = false := (fun i => hp1.blk.frozen i)) | (go_at_call 27; refine (rfloor_calls _ _).mono ?_; rintro e w' ⟨rfl, rfl⟩))
          try (repeat (go_quiet ((go_at_call 27; exact Calls.quiet_of_same ((rfloor_calls _ _).mono fun _ _ h => ⟨h.1, h.2.symm⟩))); try go_wp2_with fail))
          go_ret2
          exact ⟨(by rw [HF.out]; rfl), (by rw [HF.out]; exact by (apply Put.to; (repeat (with_reducible first | exact hp1 | exact Put.refl H.out | apply Put.set_ | apply Put.drewN | apply Put.drew)); (first | (simp [Rt.cells, Rt.lost0, Rt.lost1, Rt.at', Rt.give, Rt.ackB, Rt.ackS, Rt.ackT]; done) | rfl)))⟩
        · by_cases a4 : R.usize ≤ m
          · have hfin : R.tooBig p m n = (false, R) := by unfold Rt.tooBig; rw [if_neg (show ¬ (R.is = true ∧ R.number = p ∧ floorOf R.v ≤ m ∧ m < R.usize) from fun k => by omega)]
            have HF := Lib.hid hfin
            clear hfin
            have a1_t : R.is = true := a1
            have a2_t : (R.number == p) = true := beq_iff_eq.2 a2
            have a2_u : (R.number != p) = false := bne_eq_false_iff_eq.2 a2
            clear a2
            have a3_t : decide (m < floorOf R.v) = false := decide_eq_false a3
            have a3_u : floorOf R.v ≤ m := by omega
            clear a3
            have a4_t : decide (R.usize ≤ m) = true := decide_eq_true a4
            clear a4
            clear hmR huR
            go_enter Try.func32, Try.ntmps32
            go_wp2_with (first | (go_at_call 43; (with_reducible refine (rclock_as r R g n _ H.out HL.out HR.out).mono ?_); rintro e w1 ⟨rfl, hp1⟩; obtain ⟨c0, c1, c2, c3, c4, c5, c6, c7, c8, c9, c10, c11, c12, c13, c14, c15, c16, c17, c18, c19, c20⟩ := Ri.all hp1.blk; have hf1 : ∀ i, w1.frozen? ⟨g, i, none⟩ = false := (fun i => hp1.blk.frozen i)) | (go_at_call 27; refine (rfloor_calls _ _).mono ?_; rintro e w' ⟨rfl, rfl⟩))
            try (repeat (go_quiet ((go_at_call 27; exact Calls.quiet_of_same ((rfloor_calls _ _).mono fun _ _ h => ⟨h.1, h.2.symm⟩))); try go_wp2_with fail))
            go_ret2
            exact ⟨(by rw [HF.out]; rfl), (by rw [HF.out]; exact by (apply Put.to; (repeat (with_reducible first | exact hp1 | exact Put.refl H.out | apply Put.set_ | apply Put.drewN | apply Put.drew)); (first | (simp [Rt.cells, Rt.lost0, Rt.lost1, Rt.at', Rt.give, Rt.ackB, Rt.ackS, Rt.ackT]; done) | rfl)))⟩
          · by_cases a5 : R.st = 1
            · have hfin : R.tooBig p m n = (true, R.lostU n) := by unfold Rt.tooBig; rw [if_pos (show R.is = true ∧ R.number = p ∧ floorOf R.v ≤ m ∧ m < R.usize from ⟨a1, a2, by omega, by omega⟩)]; rw [if_pos a5]
              have HF := Lib.hid hfin
              clear hfin
              have a1_t : R.is = true := a1
              have a2_t : (R.number == p) = true := beq_iff_eq.2 a2
              have a2_u : (R.number != p) = false := bne_eq_false_iff_eq.2 a2
              clear a2
              have a3_t : decide (m < floorOf R.v) = false := decide_eq_false a3
              have a3_u : floorOf R.v ≤ m := by omega
              clear a3
              have a4_t : decide (R.usize ≤ m) = false := decide_eq_false a4
              have a4_u : m < R.usize := by omega
              clear a4
              have a5_t : (R.st == 1) = true := beq_iff_eq.2 a5
              have a5_u : (R.st != 1) = false := bne_eq_false_iff_eq.2 a5
              clear a5
              clear hmR huR
              go_enter Try.func32, Try.ntmps32
              go_wp2_with (first | (go_at_call 43; (with_reducible refine (rclock_as r R g n _ H.out HL.out HR.out).mono ?_); rintro e w1 ⟨rfl, hp1⟩; obtain ⟨c0, c1, c2, c3, c4, c5, c6, c7, c8, c9, c10, c11, c12, c13, c14, c15, c16, c17, c18, c19, c20⟩ := Ri.all hp1.blk; have hf1 : ∀ i, w1.frozen? ⟨g, i, none⟩ = false := (fun i => hp1.blk.frozen i)) | (go_at_call 27; refine (rfloor_calls _ _).mono ?_; rintro e w' ⟨rfl, rfl⟩))
              try (repeat (go_quiet ((go_at_call 27; exact Calls.quiet_of_same ((rfloor_calls _ _).mono fun _ _ h => ⟨h.1, h.2.symm⟩))); try go_wp2_with fail))
              go_wp2_with (go_at_call 44; (with_reducible refine (rlost_calls R g n _ ?qis hMR.out HU.out).mono ?_); (case qis => first | exact hp1.blk | exact hp1.blk.drewN _ | exact hp1.blk.drew); rintro e w4 ⟨rfl, hp4⟩)
              go_ret2
              exact ⟨(by rw [HF.out]; rfl), (by rw [HF.out]; exact by (apply Put.to; (repeat (with_reducible first | apply Put.after hp4 | exact hp1 | exact Put.refl H.out | apply Put.set_ | apply Put.drewN | apply Put.drew)); (first | (simp [Rt.cells, Rt.lost0, Rt.lost1, Rt.at', Rt.give, Rt.ackB, Rt.ackS, Rt.ackT]; done) | rfl)))⟩
            · by_cases a6 : m < R.low
              · have hfin : R.tooBig p m n = (false, R) := by unfold Rt.tooBig; rw [if_pos (show R.is = true ∧ R.number = p ∧ floorOf R.v ≤ m ∧ m < R.usize from ⟨a1, a2, by omega, by omega⟩)]; rw [if_neg a5, if_pos a6]
                have HF := Lib.hid hfin
                clear hfin
                have a1_t : R.is = true := a1
                have a2_t : (R.number == p) = true := beq_iff_eq.2 a2
                have a2_u : (R.number != p) = false := bne_eq_false_iff_eq.2 a2
                clear a2
                have a3_t : decide (m < floorOf R.v) = false := decide_eq_false a3
                have a3_u : floorOf R.v ≤ m := by omega
                clear a3
                have a4_t : decide (R.usize ≤ m) = false := decide_eq_false a4
                have a4_u : m < R.usize := by omega
                clear a4
                have a5_t : (R.st == 1) = false := beq_eq_false_iff_ne.2 a5
                have a5_u : (R.st != 1) = true := bne_iff_ne.2 a5
                clear a5
                have a6_t : decide (m < R.low) = true := decide_eq_true a6
                clear a6
                clear hmR huR
                go_enter Try.func32, Try.ntmps32
                go_wp2_with (first | (go_at_call 43; (with_reducible refine (rclock_as r R g n _ H.out HL.out HR.out).mono ?_); rintro e w1 ⟨rfl, hp1⟩; obtain ⟨c0, c1, c2, c3, c4, c5, c6, c7, c8, c9, c10, c11, c12, c13, c14, c15, c16, c17, c18, c19, c20⟩ := Ri.all hp1.blk; have hf1 : ∀ i, w1.frozen? ⟨g, i, none⟩ = false := (fun i => hp1.blk.frozen i)) | (go_at_call 27; refine (rfloor_calls _ _).mono ?_; rintro e w' ⟨rfl, rfl⟩))
                try (repeat (go_quiet ((go_at_call 27; exact Calls.quiet_of_same ((rfloor_calls _ _).mono fun _ _ h => ⟨h.1, h.2.symm⟩))); try go_wp2_with fail))
                go_ret2
                exact ⟨(by rw [HF.out]; rfl), (by rw [HF.out]; exact by (apply Put.to; (repeat (with_reducible first | exact hp1 | exact Put.refl H.out | apply Put.set_ | apply Put.drewN | apply Put.drew)); (first | (simp [Rt.cells, Rt.lost0, Rt.lost1, Rt.at', Rt.give, Rt.ackB, Rt.ackS, Rt.ackT]; done) | rfl)))⟩
              · by_cases a7 : m = R.low
                · have hfin : R.tooBig p m n = (true, R.lostU n) := by unfold Rt.tooBig; rw [if_pos (show R.is = true ∧ R.number = p ∧ floorOf R.v ≤ m ∧ m < R.usize from ⟨a1, a2, by omega, by omega⟩)]; rw [if_neg a5, if_neg a6, if_pos a7]
                  have HF := Lib.hid hfin
                  clear hfin
                  have a1_t : R.is = true := a1
                  have a2_t : (R.number == p) = true := beq_iff_eq.2 a2
                  have a2_u : (R.number != p) = false := bne_eq_false_iff_eq.2 a2
                  clear a2
                  have a3_t : decide (m < floorOf R.v) = false := decide_eq_false a3
                  have a3_u : floorOf R.v ≤ m := by omega
                  clear a3
                  have a4_t : decide (R.usize ≤ m) = false := decide_eq_false a4
                  have a4_u : m < R.usize := by omega
                  clear a4
                  have a5_t : (R.st == 1) = false := beq_eq_false_iff_ne.2 a5
                  have a5_u : (R.st != 1) = true := bne_iff_ne.2 a5
                  clear a5
                  have a6_t : decide (m < R.low) = false := decide_eq_false a6
                  have a6_u : R.low ≤ m := by omega
                  clear a6
                  have a7_t : (m == R.low) = true := beq_iff_eq.2 a7
                  have a7_u : (m != R.low) = false := bne_eq_false_iff_eq.2 a7
                  clear a7
                  clear hmR huR
                  go_enter Try.func32, Try.ntmps32
                  go_wp2_with (first | (go_at_call 43; (with_reducible refine (rclock_as r R g n _ H.out HL.out HR.out).mono ?_); rintro e w1 ⟨rfl, hp1⟩; obtain ⟨c0, c1, c2, c3, c4, c5, c6, c7, c8, c9, c10, c11, c12, c13, c14, c15, c16, c17, c18, c19, c20⟩ := Ri.all hp1.blk; have hf1 : ∀ i, w1.frozen? ⟨g, i, none⟩ = false := (fun i => hp1.blk.frozen i)) | (go_at_call 27; refine (rfloor_calls _ _).mono ?_; rintro e w' ⟨rfl, rfl⟩))
                  try (repeat (go_quiet ((go_at_call 27; exact Calls.quiet_of_same ((rfloor_calls _ _).mono fun _ _ h => ⟨h.1, h.2.symm⟩))); try go_wp2_with fail))
                  go_wp2_with (go_at_call 44; (with_reducible refine (rlost_calls R g n _ ?qis hMR.out HU.out).mono ?_); (case qis => first | exact hp1.blk | exact hp1.blk.drewN _ | exact hp1.blk.drew); rintro e w4 ⟨rfl, hp4⟩)
                  go_ret2
                  exact ⟨(by rw [HF.out]; rfl), (by rw [HF.out]; exact by (apply Put.to; (repeat (with_reducible first | apply Put.after hp4 | exact hp1 | exact Put.refl H.out | apply Put.set_ | apply Put.drewN | apply Put.drew)); (first | (simp [Rt.cells, Rt.lost0, Rt.lost1, Rt.at', Rt.give, Rt.ackB, Rt.ackS, Rt.ackT]; done) | rfl)))⟩
                · have hfin : R.tooBig p m n = (true, { R with is := false, tries := 0, hint := m, told := true }) := by unfold Rt.tooBig; rw [if_pos (show R.is = true ∧ R.number = p ∧ floorOf R.v ≤ m ∧ m < R.usize from ⟨a1, a2, by omega, by omega⟩)]; rw [if_neg a5, if_neg a6, if_neg a7]
                  have HF := Lib.hid hfin
                  clear hfin
                  have a1_t : R.is = true := a1
                  have a2_t : (R.number == p) = true := beq_iff_eq.2 a2
                  have a2_u : (R.number != p) = false := bne_eq_false_iff_eq.2 a2
                  clear a2
                  have a3_t : decide (m < floorOf R.v) = false := decide_eq_false a3
                  have a3_u : floorOf R.v ≤ m := by omega
                  clear a3
                  have a4_t : decide (R.usize ≤ m) = false := decide_eq_false a4
                  have a4_u : m < R.usize := by omega
                  clear a4
                  have a5_t : (R.st == 1) = false := beq_eq_false_iff_ne.2 a5
                  have a5_u : (R.st != 1) = true := bne_iff_ne.2 a5
                  clear a5
                  have a6_t : decide (m < R.low) = false := decide_eq_false a6
                  have a6_u : R.low ≤ m := by omega
                  clear a6
                  have a7_t : (m == R.low) = false := beq_eq_false_iff_ne.2 a7
                  have a7_u : (m != R.low) = true := bne_iff_ne.2 a7
                  clear a7
                  clear hmR huR
                  go_enter Try.func32, Try.ntmps32
                  go_wp2_with (first | (go_at_call 43; (with_reducible refine (rclock_as r R g n _ H.out HL.out HR.out).mono ?_); rintro e w1 ⟨rfl, hp1⟩; obtain ⟨c0, c1, c2, c3, c4, c5, c6, c7, c8, c9, c10, c11, c12, c13, c14, c15, c16, c17, c18, c19, c20⟩ := Ri.all hp1.blk; have hf1 : ∀ i, w1.frozen? ⟨g, i, none⟩ = false := (fun i => hp1.blk.frozen i)) | (go_at_call 27; refine (rfloor_calls _ _).mono ?_; rintro e w' ⟨rfl, rfl⟩))
                  try (repeat (go_quiet ((go_at_call 27; exact Calls.quiet_of_same ((rfloor_calls _ _).mono fun _ _ h => ⟨h.1, h.2.symm⟩))); try go_wp2_with fail))
                  go_ret2
                  exact ⟨(by rw [HF.out]; rfl), (by rw [HF.out]; exact by (apply Put.to; (repeat (with_reducible first | exact hp1 | exact Put.refl H.out | apply Put.set_ | apply Put.drewN | apply Put.drew)); (first | (simp [Rt.cells, Rt.lost0, Rt.lost1, Rt.at', Rt.give, Rt.ackB, Rt.ackS, Rt.ackT]; done) | rfl)))⟩
      · have hfin : R.tooBig p m n = (false, R) := by unfold Rt.tooBig; rw [if_neg (show ¬ (R.is = true ∧ R.number = p ∧ floorOf R.v ≤ m ∧ m < R.usize) from fun k => a2 k.2.1)]
        have HF := Lib.hid hfin
        clear hfin
        have a1_t : R.is = true := a1
        have a2_t : (R.number == p) = false := beq_eq_false_iff_ne.2 a2
        have a2_u : (R.number != p) = true := bne_iff_ne.2 a2
        clear a2
        clear hmR huR
        go_enter Try.func32, Try.ntmps32
        go_wp2_with (first | (go_at_call 43; (with_reducible refine (rclock_as r R g n _ H.out HL.out HR.out).mono ?_); rintro e w1 ⟨rfl, hp1⟩; obtain ⟨c0, c1, c2, c3, c4, c5, c6, c7, c8, c9, c10, c11, c12, c13, c14, c15, c16, c17, c18, c19, c20⟩ := Ri.all hp1.blk; have hf1 : ∀ i, w1.frozen? ⟨g, i, none⟩ = false := (fun i => hp1.blk.frozen i)) | (go_at_call 27; refine (rfloor_calls _ _).mono ?_; rintro e w' ⟨rfl, rfl⟩))
        try (repeat (go_quiet ((go_at_call 27; exact Calls.quiet_of_same ((rfloor_calls _ _).mono fun _ _ h => ⟨h.1, h.2.symm⟩))); try go_wp2_with fail))
        go_ret2
        exact ⟨(by rw [HF.out]; rfl), (by rw [HF.out]; exact by (apply Put.to; (repeat (with_reducible first | exact hp1 | exact Put.refl H.out | apply Put.set_ | apply Put.drewN | apply Put.drew)); (first | (simp [Rt.cells, Rt.lost0, Rt.lost1, Rt.at', Rt.give, Rt.ackB, Rt.ackS, Rt.ackT]; done) | rfl)))⟩
    · have hfin : R.tooBig p m n = (false, R) := by unfold Rt.tooBig; rw [if_neg (show ¬ (R.is = true ∧ R.number = p ∧ floorOf R.v ≤ m ∧ m < R.usize) from fun k => a1 k.1)]
      have HF := Lib.hid hfin
      clear hfin
      have a1_t : R.is = false := Bool.eq_false_iff.2 a1
      clear hmR huR
      go_enter Try.func32, Try.ntmps32
      go_wp2_with (first | (go_at_call 43; (with_reducible refine (rclock_as r R g n _ H.out HL.out HR.out).mono ?_); rintro e w1 ⟨rfl, hp1⟩; obtain ⟨c0, c1, c2, c3, c4, c5, c6, c7, c8, c9, c10, c11, c12, c13, c14, c15, c16, c17, c18, c19, c20⟩ := Ri.all hp1.blk; have hf1 : ∀ i, w1.frozen? ⟨g, i, none⟩ = false := (fun i => hp1.blk.frozen i)) | (go_at_call 27; refine (rfloor_calls _ _).mono ?_; rintro e w' ⟨rfl, rfl⟩))
      try (repeat (go_quiet ((go_at_call 27; exact Calls.quiet_of_same ((rfloor_calls _ _).mono fun _ _ h => ⟨h.1, h.2.symm⟩))); try go_wp2_with fail))
      go_ret2
      exact ⟨(by rw [HF.out]; rfl), (by rw [HF.out]; exact by (apply Put.to; (repeat (with_reducible first | exact hp1 | exact Put.refl H.out | apply Put.set_ | apply Put.drewN | apply Put.drew)); (first | (simp [Rt.cells, Rt.lost0, Rt.lost1, Rt.at', Rt.give, Rt.ackB, Rt.ackS, Rt.ackT]; done) | rfl)))⟩
end Go.Proofs.Ytmanojnhjhpokaa.PB
