/- The walk of ProbeBounds, part 4 of 5. Conditions: those of each theorem. -/
import Derived.Test.YtmanojnhjhpokaaPB0
namespace Go.Proofs.Ytmanojnhjhpokaa.PB
set_option linter.unusedVariables false
set_option linter.unusedSimpArgs false
open Go.RowKit
set_option maxRecDepth 100000 in
set_option maxHeartbeats 4000000 in
theorem pb_42 (c : Cfg) (w : World) (hv : c.v = 4) (b0 : floorOf c.v ≤ c.base) (b1 : c.base ≤ c.most) (b2 : ¬ c.most ≤ 65535) (hno : Hid (¬ c.Ok)) : Calls Try.prog 7 #[.agg #[.int .i64 c.v, .int .i64 c.base, .int .i64 c.most, .int .i64 c.tries, .int .i64 c.losses, .int .i64 c.wait, .int .i64 c.raise]] w fun e w' => e = .returned (.bool true) ∧ Below w.heap.size w w' := by
  have hv_1 : (c.v == 4) = true := beq_iff_eq.2 hv
  have hv_2 : (c.v == 6) = false := by rw [hv]; rfl
  clear hv
  have b0_t : decide (floorOf c.v ≤ c.base) = true := decide_eq_true b0
  have b1_t : decide (c.base ≤ c.most) = true := decide_eq_true b1
  have b2_t : decide (c.most ≤ 65535) = false := decide_eq_false b2
  have b2_u : 65535 < c.most := by omega
  clear b2
  go_enter Try.func7, Try.ntmps7
  go_wp2_with fail
  refine (alive_calls _).mono ?_
  rintro e w1 ⟨rfl, hb1⟩
  have x1 := box_at (b := w.heap.size) hb1 (by simp)
  have hz1 : w.heap.size < w1.heap.size := by have := hb1.size; simp at this; omega
  have B1 := Lib.hid (((Below.refl w.heap.size w).alloc (Nat.le_refl _) _).trans (hb1.mono (by simp)))
  clear hb1
  go_wp2_with fail
  refine (new_lit c _).mono ?_
  rintro e w2 hN
  obtain ⟨rfl, hb2⟩ := hN.2 hno.out
  clear hN
  have x2 := box_at (b := w.heap.size) hb2 hz1
  have B2 := Lib.hid (B1.out.trans (hb2.mono (by omega)))
  clear hb2
  go_wp2_with fail
  go_quiet ((go_at_call 17; exact Calls.quiet_of_same ((least_calls _ _).mono fun _ _ h => ⟨h.1, h.2.symm⟩)))
  go_wp2_with fail
  go_ret
  exact ⟨rfl, by repeat (first | exact B2.out | apply bdn)⟩
set_option maxRecDepth 100000 in
set_option maxHeartbeats 4000000 in
theorem pb_47 (c : Cfg) (w : World) (hv : c.v = 4) (b0 : floorOf c.v ≤ c.base) (b1 : c.base ≤ c.most) (b2 : c.most ≤ 65535) (b3 : 1 ≤ c.tries) (b4 : c.tries ≤ 16) (b5 : 1 ≤ c.losses) (b6 : c.losses ≤ 64) (b7 : ¬ 1 ≤ c.wait) (hno : Hid (¬ c.Ok)) : Calls Try.prog 7 #[.agg #[.int .i64 c.v, .int .i64 c.base, .int .i64 c.most, .int .i64 c.tries, .int .i64 c.losses, .int .i64 c.wait, .int .i64 c.raise]] w fun e w' => e = .returned (.bool true) ∧ Below w.heap.size w w' := by
  have hv_1 : (c.v == 4) = true := beq_iff_eq.2 hv
  have hv_2 : (c.v == 6) = false := by rw [hv]; rfl
  clear hv
  have b0_t : decide (floorOf c.v ≤ c.base) = true := decide_eq_true b0
  have b1_t : decide (c.base ≤ c.most) = true := decide_eq_true b1
  have b2_t : decide (c.most ≤ 65535) = true := decide_eq_true b2
  have b3_t : decide (1 ≤ c.tries) = true := decide_eq_true b3
  have b4_t : decide (c.tries ≤ 16) = true := decide_eq_true b4
  have b5_t : decide (1 ≤ c.losses) = true := decide_eq_true b5
  have b6_t : decide (c.losses ≤ 64) = true := decide_eq_true b6
  have b7_t : decide (1 ≤ c.wait) = false := decide_eq_false b7
  have b7_u : c.wait < 1 := by omega
  clear b7
  go_enter Try.func7, Try.ntmps7
  go_wp2_with fail
  refine (alive_calls _).mono ?_
  rintro e w1 ⟨rfl, hb1⟩
  have x1 := box_at (b := w.heap.size) hb1 (by simp)
  have hz1 : w.heap.size < w1.heap.size := by have := hb1.size; simp at this; omega
  have B1 := Lib.hid (((Below.refl w.heap.size w).alloc (Nat.le_refl _) _).trans (hb1.mono (by simp)))
  clear hb1
  go_wp2_with fail
  refine (new_lit c _).mono ?_
  rintro e w2 hN
  obtain ⟨rfl, hb2⟩ := hN.2 hno.out
  clear hN
  have x2 := box_at (b := w.heap.size) hb2 hz1
  have B2 := Lib.hid (B1.out.trans (hb2.mono (by omega)))
  clear hb2
  go_wp2_with fail
  go_quiet ((go_at_call 17; exact Calls.quiet_of_same ((least_calls _ _).mono fun _ _ h => ⟨h.1, h.2.symm⟩)))
  go_wp2_with fail
  go_ret
  exact ⟨rfl, by repeat (first | exact B2.out | apply bdn)⟩
set_option maxRecDepth 100000 in
set_option maxHeartbeats 4000000 in
theorem pb_60 (c : Cfg) (w : World) (hv : c.v = 6) (b0 : ¬ floorOf c.v ≤ c.base) (hno : Hid (¬ c.Ok)) : Calls Try.prog 7 #[.agg #[.int .i64 c.v, .int .i64 c.base, .int .i64 c.most, .int .i64 c.tries, .int .i64 c.losses, .int .i64 c.wait, .int .i64 c.raise]] w fun e w' => e = .returned (.bool true) ∧ Below w.heap.size w w' := by
  have hv_1 : (c.v == 4) = false := by rw [hv]; rfl
  have hv_2 : (c.v == 6) = true := beq_iff_eq.2 hv
  clear hv
  have b0_t : decide (floorOf c.v ≤ c.base) = false := decide_eq_false b0
  have b0_u : c.base < floorOf c.v := by omega
  clear b0
  go_enter Try.func7, Try.ntmps7
  go_wp2_with fail
  refine (alive_calls _).mono ?_
  rintro e w1 ⟨rfl, hb1⟩
  have x1 := box_at (b := w.heap.size) hb1 (by simp)
  have hz1 : w.heap.size < w1.heap.size := by have := hb1.size; simp at this; omega
  have B1 := Lib.hid (((Below.refl w.heap.size w).alloc (Nat.le_refl _) _).trans (hb1.mono (by simp)))
  clear hb1
  go_wp2_with fail
  refine (new_lit c _).mono ?_
  rintro e w2 hN
  obtain ⟨rfl, hb2⟩ := hN.2 hno.out
  clear hN
  have x2 := box_at (b := w.heap.size) hb2 hz1
  have B2 := Lib.hid (B1.out.trans (hb2.mono (by omega)))
  clear hb2
  go_wp2_with fail
  go_quiet ((go_at_call 17; exact Calls.quiet_of_same ((least_calls _ _).mono fun _ _ h => ⟨h.1, h.2.symm⟩)))
  go_wp2_with fail
  go_ret
  exact ⟨rfl, by repeat (first | exact B2.out | apply bdn)⟩
set_option maxRecDepth 100000 in
set_option maxHeartbeats 4000000 in
theorem pb_65 (c : Cfg) (w : World) (hv : c.v = 6) (b0 : floorOf c.v ≤ c.base) (b1 : c.base ≤ c.most) (b2 : c.most ≤ 65535) (b3 : 1 ≤ c.tries) (b4 : c.tries ≤ 16) (b5 : ¬ 1 ≤ c.losses) (hno : Hid (¬ c.Ok)) : Calls Try.prog 7 #[.agg #[.int .i64 c.v, .int .i64 c.base, .int .i64 c.most, .int .i64 c.tries, .int .i64 c.losses, .int .i64 c.wait, .int .i64 c.raise]] w fun e w' => e = .returned (.bool true) ∧ Below w.heap.size w w' := by
  have hv_1 : (c.v == 4) = false := by rw [hv]; rfl
  have hv_2 : (c.v == 6) = true := beq_iff_eq.2 hv
  clear hv
  have b0_t : decide (floorOf c.v ≤ c.base) = true := decide_eq_true b0
  have b1_t : decide (c.base ≤ c.most) = true := decide_eq_true b1
  have b2_t : decide (c.most ≤ 65535) = true := decide_eq_true b2
  have b3_t : decide (1 ≤ c.tries) = true := decide_eq_true b3
  have b4_t : decide (c.tries ≤ 16) = true := decide_eq_true b4
  have b5_t : decide (1 ≤ c.losses) = false := decide_eq_false b5
  have b5_u : c.losses < 1 := by omega
  clear b5
  go_enter Try.func7, Try.ntmps7
  go_wp2_with fail
  refine (alive_calls _).mono ?_
  rintro e w1 ⟨rfl, hb1⟩
  have x1 := box_at (b := w.heap.size) hb1 (by simp)
  have hz1 : w.heap.size < w1.heap.size := by have := hb1.size; simp at this; omega
  have B1 := Lib.hid (((Below.refl w.heap.size w).alloc (Nat.le_refl _) _).trans (hb1.mono (by simp)))
  clear hb1
  go_wp2_with fail
  refine (new_lit c _).mono ?_
  rintro e w2 hN
  obtain ⟨rfl, hb2⟩ := hN.2 hno.out
  clear hN
  have x2 := box_at (b := w.heap.size) hb2 hz1
  have B2 := Lib.hid (B1.out.trans (hb2.mono (by omega)))
  clear hb2
  go_wp2_with fail
  go_quiet ((go_at_call 17; exact Calls.quiet_of_same ((least_calls _ _).mono fun _ _ h => ⟨h.1, h.2.symm⟩)))
  go_wp2_with fail
  go_ret
  exact ⟨rfl, by repeat (first | exact B2.out | apply bdn)⟩
set_option maxRecDepth 100000 in
set_option maxHeartbeats 4000000 in
theorem pb_610 (c : Cfg) (w : World) (hv : c.v = 6) (b0 : floorOf c.v ≤ c.base) (b1 : c.base ≤ c.most) (b2 : c.most ≤ 65535) (b3 : 1 ≤ c.tries) (b4 : c.tries ≤ 16) (b5 : 1 ≤ c.losses) (b6 : c.losses ≤ 64) (b7 : 1 ≤ c.wait) (b8 : c.wait ≤ 1099511627776) (b9 : 1 ≤ c.raise) (b10 : ¬ c.raise ≤ 1099511627776) (hno : Hid (¬ c.Ok)) : Calls Try.prog 7 #[.agg #[.int .i64 c.v, .int .i64 c.base, .int .i64 c.most, .int .i64 c.tries, .int .i64 c.losses, .int .i64 c.wait, .int .i64 c.raise]] w fun e w' => e = .returned (.bool true) ∧ Below w.heap.size w w' := by
  have hv_1 : (c.v == 4) = false := by rw [hv]; rfl
  have hv_2 : (c.v == 6) = true := beq_iff_eq.2 hv
  clear hv
  have b0_t : decide (floorOf c.v ≤ c.base) = true := decide_eq_true b0
  have b1_t : decide (c.base ≤ c.most) = true := decide_eq_true b1
  have b2_t : decide (c.most ≤ 65535) = true := decide_eq_true b2
  have b3_t : decide (1 ≤ c.tries) = true := decide_eq_true b3
  have b4_t : decide (c.tries ≤ 16) = true := decide_eq_true b4
  have b5_t : decide (1 ≤ c.losses) = true := decide_eq_true b5
  have b6_t : decide (c.losses ≤ 64) = true := decide_eq_true b6
  have b7_t : decide (1 ≤ c.wait) = true := decide_eq_true b7
  have b8_t : decide (c.wait ≤ 1099511627776) = true := decide_eq_true b8
  have b9_t : decide (1 ≤ c.raise) = true := decide_eq_true b9
  have b10_t : decide (c.raise ≤ 1099511627776) = false := decide_eq_false b10
  have b10_u : 1099511627776 < c.raise := by omega
  clear b10
  go_enter Try.func7, Try.ntmps7
  go_wp2_with fail
  refine (alive_calls _).mono ?_
  rintro e w1 ⟨rfl, hb1⟩
  have x1 := box_at (b := w.heap.size) hb1 (by simp)
  have hz1 : w.heap.size < w1.heap.size := by have := hb1.size; simp at this; omega
  have B1 := Lib.hid (((Below.refl w.heap.size w).alloc (Nat.le_refl _) _).trans (hb1.mono (by simp)))
  clear hb1
  go_wp2_with fail
  refine (new_lit c _).mono ?_
  rintro e w2 hN
  obtain ⟨rfl, hb2⟩ := hN.2 hno.out
  clear hN
  have x2 := box_at (b := w.heap.size) hb2 hz1
  have B2 := Lib.hid (B1.out.trans (hb2.mono (by omega)))
  clear hb2
  go_wp2_with fail
  go_quiet ((go_at_call 17; exact Calls.quiet_of_same ((least_calls _ _).mono fun _ _ h => ⟨h.1, h.2.symm⟩)))
  go_wp2_with fail
  go_ret
  exact ⟨rfl, by repeat (first | exact B2.out | apply bdn)⟩
end Go.Proofs.Ytmanojnhjhpokaa.PB
