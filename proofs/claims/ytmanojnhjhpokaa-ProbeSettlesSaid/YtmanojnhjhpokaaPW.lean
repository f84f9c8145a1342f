/- Contracts of probe.New: it refuses what is out of its bounds, and makes a path at its base of all else. Conditions: none. -/
import Derived.Test.YtmanojnhjhpokaaPN
namespace Go.Proofs.Ytmanojnhjhpokaa.PB
set_option linter.unusedVariables false
set_option linter.unusedSimpArgs false
open Go.RowKit
theorem bdn {B : Nat} {w W : World} (h : Below B w W) (n : Nat) : Below B w (W.drewN n) := ⟨h.os, h.tape, h.output, h.size, h.block⟩
def inB (n a b : Int) : Bool := if a ≤ n then decide (n ≤ b) else false
set_option maxHeartbeats 1000000 in
theorem within_calls (n a b : Int) (w : World) : Calls Try.prog 25 #[.int .i64 n, .int .i64 a, .int .i64 b] w fun e w' => e = .returned (.bool (inB n a b)) ∧ w = w' := by
  unfold inB
  by_cases h : a ≤ n
  · rw [if_pos h]
    have h' : decide (a ≤ n) = true := decide_eq_true h
    go_enter Try.func25, Try.ntmps25
    go_wp2
    go_ret
    exact ⟨rfl, rfl⟩
  · rw [if_neg h]
    have h' : decide (a ≤ n) = false := decide_eq_false h
    have h'' : n < a := by omega
    clear h
    go_enter Try.func25, Try.ntmps25
    go_wp2
    go_ret
    exact ⟨rfl, rfl⟩
theorem Blk.new_at {w : World} {t : TypeId} {cs : Array Value} {g : Nat} (h : g = w.heap.size) : Blk (w.alloc (.cells cs t)) g t cs := h ▸ Blk.new w t cs
theorem within_val (n a b : Int) (r : Bool) (h : inB n a b = r) (w : World) : Calls Try.prog 25 #[.int .i64 n, .int .i64 a, .int .i64 b] w fun e w' => e = .returned (.bool r) ∧ w = w' := h ▸ within_calls n a b w
/-- What a path is probed with. -/
structure Cfg where
  v : Int
  base : Int
  most : Int
  tries : Int
  losses : Int
  wait : Int
  raise : Int
def Cfg.val (c : Cfg) : Value := .agg #[.int .i64 c.v, .int .i64 c.base, .int .i64 c.most, .int .i64 c.tries, .int .i64 c.losses, .int .i64 c.wait, .int .i64 c.raise]
structure Cfg.Ok (c : Cfg) : Prop where
  v : c.v = 4 ∨ c.v = 6
  base : floorOf c.v ≤ c.base
  most : c.base ≤ c.most
  most1 : c.most ≤ 65535
  tries : 1 ≤ c.tries ∧ c.tries ≤ 16
  losses : 1 ≤ c.losses ∧ c.losses ≤ 64
  wait : 1 ≤ c.wait ∧ c.wait ≤ 1099511627776
  raise : 1 ≤ c.raise ∧ c.raise ≤ 1099511627776
def Cfg.path (c : Cfg) : Pt := { v := c.v, base := c.base, most := c.most, mtries := c.tries, mlosses := c.losses, wait := c.wait, raise := c.raise, state := 1, low := 0, high := 0, hsize := 0, hheard := false, tries := 0, losses := 0, unum := 0, usize := 0, uat := 0, uheard := false, number := 0, since := 0, now := 0 }
def Refused (w : World) (e : Ending) (w' : World) : Prop := e = .returned (.tuple #[.pointer none, .int .i64 1]) ∧ Below w.heap.size w w'
def Made (c : Cfg) (w : World) (e : Ending) (w' : World) : Prop := ∃ g, e = .returned (.tuple #[.pointer (some ⟨g, 0, none⟩), .int .i64 0]) ∧ w.heap.size ≤ g ∧ Is w' g c.path ∧ Below w.heap.size w w'
set_option maxRecDepth 100000 in
set_option maxHeartbeats 4000000 in
theorem new_v (c_v c_base c_most c_tries c_losses c_wait c_raise : Int) (w : World) (hv : c_v ≠ 4) (hv6 : c_v ≠ 6) : Calls Try.prog 9 #[.agg #[.int .i64 c_v, .int .i64 c_base, .int .i64 c_most, .int .i64 c_tries, .int .i64 c_losses, .int .i64 c_wait, .int .i64 c_raise]] w (Refused w) := by
  have hv_1 : (c_v != 4) = true := bne_iff_ne.2 hv
  have hv_2 : (c_v != 6) = true := bne_iff_ne.2 hv6
  clear hv hv6
  go_enter Try.func9, Try.ntmps9
  go_wp2_with (first | (go_at_call 26; (with_reducible refine (floor_calls _ _).mono ?_); rintro e w' ⟨rfl, rfl⟩))
  try (repeat (go_quiet ((go_at_call 26; exact Calls.quiet_of_same ((floor_calls _ _).mono fun _ _ h => ⟨h.1, h.2.symm⟩))); try go_wp2_with (first | (go_at_call 26; (with_reducible refine (floor_calls _ _).mono ?_); rintro e w' ⟨rfl, rfl⟩))))
  go_ret2
  exact ⟨rfl, by repeat (first | exact Below.refl _ _ | refine Below.alloc ?_ (by simp) _ | apply bdn)⟩
set_option maxRecDepth 100000 in
set_option maxHeartbeats 4000000 in
theorem new_b4 (c_v c_base c_most c_tries c_losses c_wait c_raise : Int) (w : World) (hv : c_v = 4) (hb : c_base < floorOf c_v) : Calls Try.prog 9 #[.agg #[.int .i64 c_v, .int .i64 c_base, .int .i64 c_most, .int .i64 c_tries, .int .i64 c_losses, .int .i64 c_wait, .int .i64 c_raise]] w (Refused w) := by
  have hv_1 : (c_v != 4) = false := by rw [hv]; rfl
  have hv_2 : (c_v != 6) = true := by rw [hv]; rfl
  clear hv
  have hb_t : decide (c_base < floorOf c_v) = true := decide_eq_true hb
  go_enter Try.func9, Try.ntmps9
  go_wp2_with (first | (go_at_call 26; (with_reducible refine (floor_calls _ _).mono ?_); rintro e w' ⟨rfl, rfl⟩))
  try (repeat (go_quiet ((go_at_call 26; exact Calls.quiet_of_same ((floor_calls _ _).mono fun _ _ h => ⟨h.1, h.2.symm⟩))); try go_wp2_with (first | (go_at_call 26; (with_reducible refine (floor_calls _ _).mono ?_); rintro e w' ⟨rfl, rfl⟩))))
  go_ret2
  exact ⟨rfl, by repeat (first | exact Below.refl _ _ | refine Below.alloc ?_ (by simp) _ | apply bdn)⟩
set_option maxRecDepth 100000 in
set_option maxHeartbeats 4000000 in
theorem new_c4 (c_v c_base c_most c_tries c_losses c_wait c_raise : Int) (w : World) (hv : c_v = 4) (hb : ¬ c_base < floorOf c_v) (hb2 : c_most < c_base) : Calls Try.prog 9 #[.agg #[.int .i64 c_v, .int .i64 c_base, .int .i64 c_most, .int .i64 c_tries, .int .i64 c_losses, .int .i64 c_wait, .int .i64 c_raise]] w (Refused w) := by
  have hv_1 : (c_v != 4) = false := by rw [hv]; rfl
  have hv_2 : (c_v != 6) = true := by rw [hv]; rfl
  clear hv
  have hb_t : decide (c_base < floorOf c_v) = false := decide_eq_false hb
  have hb_u : floorOf c_v ≤ c_base := by omega
  clear hb
  have hb2_t : decide (c_most < c_base) = true := decide_eq_true hb2
  go_enter Try.func9, Try.ntmps9
  go_wp2_with (first | (go_at_call 26; (with_reducible refine (floor_calls _ _).mono ?_); rintro e w' ⟨rfl, rfl⟩))
  try (repeat (go_quiet ((go_at_call 26; exact Calls.quiet_of_same ((floor_calls _ _).mono fun _ _ h => ⟨h.1, h.2.symm⟩))); try go_wp2_with (first | (go_at_call 26; (with_reducible refine (floor_calls _ _).mono ?_); rintro e w' ⟨rfl, rfl⟩))))
  go_ret2
  exact ⟨rfl, by repeat (first | exact Below.refl _ _ | refine Below.alloc ?_ (by simp) _ | apply bdn)⟩
set_option maxRecDepth 100000 in
set_option maxHeartbeats 4000000 in
theorem new_d4 (c_v c_base c_most c_tries c_losses c_wait c_raise : Int) (w : World) (hv : c_v = 4) (hb : ¬ c_base < floorOf c_v) (hb2 : ¬ c_most < c_base) (hb3 : 65535 < c_most) : Calls Try.prog 9 #[.agg #[.int .i64 c_v, .int .i64 c_base, .int .i64 c_most, .int .i64 c_tries, .int .i64 c_losses, .int .i64 c_wait, .int .i64 c_raise]] w (Refused w) := by
  have hv_1 : (c_v != 4) = false := by rw [hv]; rfl
  have hv_2 : (c_v != 6) = true := by rw [hv]; rfl
  clear hv
  have hb_t : decide (c_base < floorOf c_v) = false := decide_eq_false hb
  have hb_u : floorOf c_v ≤ c_base := by omega
  clear hb
  have hb2_t : decide (c_most < c_base) = false := decide_eq_false hb2
  have hb2_u : c_base ≤ c_most := by omega
  clear hb2
  have hb3_t : decide (65535 < c_most) = true := decide_eq_true hb3
  go_enter Try.func9, Try.ntmps9
  go_wp2_with (first | (go_at_call 26; (with_reducible refine (floor_calls _ _).mono ?_); rintro e w' ⟨rfl, rfl⟩))
  try (repeat (go_quiet ((go_at_call 26; exact Calls.quiet_of_same ((floor_calls _ _).mono fun _ _ h => ⟨h.1, h.2.symm⟩))); try go_wp2_with (first | (go_at_call 26; (with_reducible refine (floor_calls _ _).mono ?_); rintro e w' ⟨rfl, rfl⟩))))
  go_ret2
  exact ⟨rfl, by repeat (first | exact Below.refl _ _ | refine Below.alloc ?_ (by simp) _ | apply bdn)⟩
set_option maxRecDepth 100000 in
set_option maxHeartbeats 4000000 in
theorem new_e4 (c_v c_base c_most c_tries c_losses c_wait c_raise : Int) (w : World) (hv : c_v = 4) (hb : ¬ c_base < floorOf c_v) (hb2 : ¬ c_most < c_base) (hb3 : ¬ 65535 < c_most)  (t0 : inB c_tries 1 16 = false) : Calls Try.prog 9 #[.agg #[.int .i64 c_v, .int .i64 c_base, .int .i64 c_most, .int .i64 c_tries, .int .i64 c_losses, .int .i64 c_wait, .int .i64 c_raise]] w (Refused w) := by
  have hv_1 : (c_v != 4) = false := by rw [hv]; rfl
  have hv_2 : (c_v != 6) = true := by rw [hv]; rfl
  clear hv
  have hb_t : decide (c_base < floorOf c_v) = false := decide_eq_false hb
  have hb_u : floorOf c_v ≤ c_base := by omega
  clear hb
  have hb2_t : decide (c_most < c_base) = false := decide_eq_false hb2
  have hb2_u : c_base ≤ c_most := by omega
  clear hb2
  have hb3_t : decide (65535 < c_most) = false := decide_eq_false hb3
  have hb3_u : c_most ≤ 65535 := by omega
  clear hb3
  have T0 := Lib.hid t0
  clear t0
  go_enter Try.func9, Try.ntmps9
  go_wp2_with (first | (go_at_call 26; (with_reducible refine (floor_calls _ _).mono ?_); rintro e w' ⟨rfl, rfl⟩) | (go_at_call 25; (with_reducible refine (within_val c_tries _ _ _ T0.out _).mono ?_); rintro e w' ⟨rfl, rfl⟩))
  try (repeat (go_quiet ((go_at_call 26; exact Calls.quiet_of_same ((floor_calls _ _).mono fun _ _ h => ⟨h.1, h.2.symm⟩))); try go_wp2_with (first | (go_at_call 26; (with_reducible refine (floor_calls _ _).mono ?_); rintro e w' ⟨rfl, rfl⟩) | (go_at_call 25; (with_reducible refine (within_val c_tries _ _ _ T0.out _).mono ?_); rintro e w' ⟨rfl, rfl⟩))))
  go_ret2
  exact ⟨rfl, by repeat (first | exact Below.refl _ _ | refine Below.alloc ?_ (by simp) _ | apply bdn)⟩
set_option maxRecDepth 100000 in
set_option maxHeartbeats 4000000 in
theorem new_f4 (c_v c_base c_most c_tries c_losses c_wait c_raise : Int) (w : World) (hv : c_v = 4) (hb : ¬ c_base < floorOf c_v) (hb2 : ¬ c_most < c_base) (hb3 : ¬ 65535 < c_most) (t0 : inB c_tries 1 16 = true) (t1 : inB c_losses 1 64 = false) : Calls Try.prog 9 #[.agg #[.int .i64 c_v, .int .i64 c_base, .int .i64 c_most, .int .i64 c_tries, .int .i64 c_losses, .int .i64 c_wait, .int .i64 c_raise]] w (Refused w) := by
  have hv_1 : (c_v != 4) = false := by rw [hv]; rfl
  have hv_2 : (c_v != 6) = true := by rw [hv]; rfl
  clear hv
  have hb_t : decide (c_base < floorOf c_v) = false := decide_eq_false hb
  have hb_u : floorOf c_v ≤ c_base := by omega
  clear hb
  have hb2_t : decide (c_most < c_base) = false := decide_eq_false hb2
  have hb2_u : c_base ≤ c_most := by omega
  clear hb2
  have hb3_t : decide (65535 < c_most) = false := decide_eq_false hb3
  have hb3_u : c_most ≤ 65535 := by omega
  clear hb3
  have T0 := Lib.hid t0
  clear t0
  have T1 := Lib.hid t1
  clear t1
  go_enter Try.func9, Try.ntmps9
  go_wp2_with (first | (go_at_call 26; (with_reducible refine (floor_calls _ _).mono ?_); rintro e w' ⟨rfl, rfl⟩) | (go_at_call 25; (with_reducible refine (within_val c_tries _ _ _ T0.out _).mono ?_); rintro e w' ⟨rfl, rfl⟩) | (go_at_call 25; (with_reducible refine (within_val c_losses _ _ _ T1.out _).mono ?_); rintro e w' ⟨rfl, rfl⟩))
  try (repeat (go_quiet ((go_at_call 26; exact Calls.quiet_of_same ((floor_calls _ _).mono fun _ _ h => ⟨h.1, h.2.symm⟩))); try go_wp2_with (first | (go_at_call 26; (with_reducible refine (floor_calls _ _).mono ?_); rintro e w' ⟨rfl, rfl⟩) | (go_at_call 25; (with_reducible refine (within_val c_tries _ _ _ T0.out _).mono ?_); rintro e w' ⟨rfl, rfl⟩) | (go_at_call 25; (with_reducible refine (within_val c_losses _ _ _ T1.out _).mono ?_); rintro e w' ⟨rfl, rfl⟩))))
  go_ret2
  exact ⟨rfl, by repeat (first | exact Below.refl _ _ | refine Below.alloc ?_ (by simp) _ | apply bdn)⟩
set_option maxRecDepth 100000 in
set_option maxHeartbeats 4000000 in
theorem new_g4 (c_v c_base c_most c_tries c_losses c_wait c_raise : Int) (w : World) (hv : c_v = 4) (hb : ¬ c_base < floorOf c_v) (hb2 : ¬ c_most < c_base) (hb3 : ¬ 65535 < c_most) (t0 : inB c_tries 1 16 = true) (t1 : inB c_losses 1 64 = true) (t2 : inB c_wait 1 1099511627776 = false) : Calls Try.prog 9 #[.agg #[.int .i64 c_v, .int .i64 c_base, .int .i64 c_most, .int .i64 c_tries, .int .i64 c_losses, .int .i64 c_wait, .int .i64 c_raise]] w (Refused w) := by
  have hv_1 : (c_v != 4) = false := by rw [hv]; rfl
  have hv_2 : (c_v != 6) = true := by rw [hv]; rfl
  clear hv
  have hb_t : decide (c_base < floorOf c_v) = false := decide_eq_false hb
  have hb_u : floorOf c_v ≤ c_base := by omega
  clear hb
  have hb2_t : decide (c_most < c_base) = false := decide_eq_false hb2
  have hb2_u : c_base ≤ c_most := by omega
  clear hb2
  have hb3_t : decide (65535 < c_most) = false := decide_eq_false hb3
  have hb3_u : c_most ≤ 65535 := by omega
  clear hb3
  have T0 := Lib.hid t0
  clear t0
  have T1 := Lib.hid t1
  clear t1
  have T2 := Lib.hid t2
  clear t2
  go_enter Try.func9, Try.ntmps9
  go_wp2_with (first | (go_at_call 26; (with_reducible refine (floor_calls _ _).mono ?_); rintro e w' ⟨rfl, rfl⟩) | (go_at_call 25; (with_reducible refine (within_val c_tries _ _ _ T0.out _).mono ?_); rintro e w' ⟨rfl, rfl⟩) | (go_at_call 25; (with_reducible refine (within_val c_losses _ _ _ T1.out _).mono ?_); rintro e w' ⟨rfl, rfl⟩) | (go_at_call 25; (with_reducible refine (within_val c_wait _ _ _ T2.out _).mono ?_); rintro e w' ⟨rfl, rfl⟩))
  try (repeat (go_quiet ((go_at_call 26; exact Calls.quiet_of_same ((floor_calls _ _).mono fun _ _ h => ⟨h.1, h.2.symm⟩))); try go_wp2_with (first | (go_at_call 26; (with_reducible refine (floor_calls _ _).mono ?_); rintro e w' ⟨rfl, rfl⟩) | (go_at_call 25; (with_reducible refine (within_val c_tries _ _ _ T0.out _).mono ?_); rintro e w' ⟨rfl, rfl⟩) | (go_at_call 25; (with_reducible refine (within_val c_losses _ _ _ T1.out _).mono ?_); rintro e w' ⟨rfl, rfl⟩) | (go_at_call 25; (with_reducible refine (within_val c_wait _ _ _ T2.out _).mono ?_); rintro e w' ⟨rfl, rfl⟩))))
  go_ret2
  exact ⟨rfl, by repeat (first | exact Below.refl _ _ | refine Below.alloc ?_ (by simp) _ | apply bdn)⟩
set_option maxRecDepth 100000 in
set_option maxHeartbeats 4000000 in
theorem new_h4 (c_v c_base c_most c_tries c_losses c_wait c_raise : Int) (w : World) (hv : c_v = 4) (hb : ¬ c_base < floorOf c_v) (hb2 : ¬ c_most < c_base) (hb3 : ¬ 65535 < c_most) (t0 : inB c_tries 1 16 = true) (t1 : inB c_losses 1 64 = true) (t2 : inB c_wait 1 1099511627776 = true) (t3 : inB c_raise 1 1099511627776 = false) : Calls Try.prog 9 #[.agg #[.int .i64 c_v, .int .i64 c_base, .int .i64 c_most, .int .i64 c_tries, .int .i64 c_losses, .int .i64 c_wait, .int .i64 c_raise]] w (Refused w) := by
  have hv_1 : (c_v != 4) = false := by rw [hv]; rfl
  have hv_2 : (c_v != 6) = true := by rw [hv]; rfl
  clear hv
  have hb_t : decide (c_base < floorOf c_v) = false := decide_eq_false hb
  have hb_u : floorOf c_v ≤ c_base := by omega
  clear hb
  have hb2_t : decide (c_most < c_base) = false := decide_eq_false hb2
  have hb2_u : c_base ≤ c_most := by omega
  clear hb2
  have hb3_t : decide (65535 < c_most) = false := decide_eq_false hb3
  have hb3_u : c_most ≤ 65535 := by omega
  clear hb3
  have T0 := Lib.hid t0
  clear t0
  have T1 := Lib.hid t1
  clear t1
  have T2 := Lib.hid t2
  clear t2
  have T3 := Lib.hid t3
  clear t3
  go_enter Try.func9, Try.ntmps9
  go_wp2_with (first | (go_at_call 26; (with_reducible refine (floor_calls _ _).mono ?_); rintro e w' ⟨rfl, rfl⟩) | (go_at_call 25; (with_reducible refine (within_val c_tries _ _ _ T0.out _).mono ?_); rintro e w' ⟨rfl, rfl⟩) | (go_at_call 25; (with_reducible refine (within_val c_losses _ _ _ T1.out _).mono ?_); rintro e w' ⟨rfl, rfl⟩) | (go_at_call 25; (with_reducible refine (within_val c_wait _ _ _ T2.out _).mono ?_); rintro e w' ⟨rfl, rfl⟩) | (go_at_call 25; (with_reducible refine (within_val c_raise _ _ _ T3.out _).mono ?_); rintro e w' ⟨rfl, rfl⟩))
  try (repeat (go_quiet ((go_at_call 26; exact Calls.quiet_of_same ((floor_calls _ _).mono fun _ _ h => ⟨h.1, h.2.symm⟩))); try go_wp2_with (first | (go_at_call 26; (with_reducible refine (floor_calls _ _).mono ?_); rintro e w' ⟨rfl, rfl⟩) | (go_at_call 25; (with_reducible refine (within_val c_tries _ _ _ T0.out _).mono ?_); rintro e w' ⟨rfl, rfl⟩) | (go_at_call 25; (with_reducible refine (within_val c_losses _ _ _ T1.out _).mono ?_); rintro e w' ⟨rfl, rfl⟩) | (go_at_call 25; (with_reducible refine (within_val c_wait _ _ _ T2.out _).mono ?_); rintro e w' ⟨rfl, rfl⟩) | (go_at_call 25; (with_reducible refine (within_val c_raise _ _ _ T3.out _).mono ?_); rintro e w' ⟨rfl, rfl⟩))))
  go_ret2
  exact ⟨rfl, by repeat (first | exact Below.refl _ _ | refine Below.alloc ?_ (by simp) _ | apply bdn)⟩
set_option maxRecDepth 100000 in
set_option maxHeartbeats 4000000 in
theorem new_i4 (c_v c_base c_most c_tries c_losses c_wait c_raise : Int) (w : World) (hv : c_v = 4) (hb : ¬ c_base < floorOf c_v) (hb2 : ¬ c_most < c_base) (hb3 : ¬ 65535 < c_most) (t0 : inB c_tries 1 16 = true) (t1 : inB c_losses 1 64 = true) (t2 : inB c_wait 1 1099511627776 = true) (t3 : inB c_raise 1 1099511627776 = true) : Calls Try.prog 9 #[.agg #[.int .i64 c_v, .int .i64 c_base, .int .i64 c_most, .int .i64 c_tries, .int .i64 c_losses, .int .i64 c_wait, .int .i64 c_raise]] w (Made ⟨c_v, c_base, c_most, c_tries, c_losses, c_wait, c_raise⟩ w) := by
  have hv_1 : (c_v != 4) = false := by rw [hv]; rfl
  have hv_2 : (c_v != 6) = true := by rw [hv]; rfl
  clear hv
  have hb_t : decide (c_base < floorOf c_v) = false := decide_eq_false hb
  have hb_u : floorOf c_v ≤ c_base := by omega
  clear hb
  have hb2_t : decide (c_most < c_base) = false := decide_eq_false hb2
  have hb2_u : c_base ≤ c_most := by omega
  clear hb2
  have hb3_t : decide (65535 < c_most) = false := decide_eq_false hb3
  have hb3_u : c_most ≤ 65535 := by omega
  clear hb3
  have T0 := Lib.hid t0
  clear t0
  have T1 := Lib.hid t1
  clear t1
  have T2 := Lib.hid t2
  clear t2
  have T3 := Lib.hid t3
  clear t3
  go_enter Try.func9, Try.ntmps9
  go_wp2_with (first | (go_at_call 26; (with_reducible refine (floor_calls _ _).mono ?_); rintro e w' ⟨rfl, rfl⟩) | (go_at_call 25; (with_reducible refine (within_val c_tries _ _ _ T0.out _).mono ?_); rintro e w' ⟨rfl, rfl⟩) | (go_at_call 25; (with_reducible refine (within_val c_losses _ _ _ T1.out _).mono ?_); rintro e w' ⟨rfl, rfl⟩) | (go_at_call 25; (with_reducible refine (within_val c_wait _ _ _ T2.out _).mono ?_); rintro e w' ⟨rfl, rfl⟩) | (go_at_call 25; (with_reducible refine (within_val c_raise _ _ _ T3.out _).mono ?_); rintro e w' ⟨rfl, rfl⟩))
  try (repeat (go_quiet ((go_at_call 26; exact Calls.quiet_of_same ((floor_calls _ _).mono fun _ _ h => ⟨h.1, h.2.symm⟩))); try go_wp2_with (first | (go_at_call 26; (with_reducible refine (floor_calls _ _).mono ?_); rintro e w' ⟨rfl, rfl⟩) | (go_at_call 25; (with_reducible refine (within_val c_tries _ _ _ T0.out _).mono ?_); rintro e w' ⟨rfl, rfl⟩) | (go_at_call 25; (with_reducible refine (within_val c_losses _ _ _ T1.out _).mono ?_); rintro e w' ⟨rfl, rfl⟩) | (go_at_call 25; (with_reducible refine (within_val c_wait _ _ _ T2.out _).mono ?_); rintro e w' ⟨rfl, rfl⟩) | (go_at_call 25; (with_reducible refine (within_val c_raise _ _ _ T3.out _).mono ?_); rintro e w' ⟨rfl, rfl⟩))))
  go_ret2
  refine ⟨_, rfl, ?_, ?_, ?_⟩
  · simp
  · exact Blk.new_at (by simp)
  · repeat (first | exact Below.refl _ _ | refine Below.alloc ?_ (by simp) _ | apply bdn)
set_option maxRecDepth 100000 in
set_option maxHeartbeats 4000000 in
theorem new_b6 (c_v c_base c_most c_tries c_losses c_wait c_raise : Int) (w : World) (hv : c_v = 6) (hb : c_base < floorOf c_v) : Calls Try.prog 9 #[.agg #[.int .i64 c_v, .int .i64 c_base, .int .i64 c_most, .int .i64 c_tries, .int .i64 c_losses, .int .i64 c_wait, .int .i64 c_raise]] w (Refused w) := by
  have hv_1 : (c_v != 4) = true := by rw [hv]; rfl
  have hv_2 : (c_v != 6) = false := by rw [hv]; rfl
  clear hv
  have hb_t : decide (c_base < floorOf c_v) = true := decide_eq_true hb
  go_enter Try.func9, Try.ntmps9
  go_wp2_with (first | (go_at_call 26; (with_reducible refine (floor_calls _ _).mono ?_); rintro e w' ⟨rfl, rfl⟩))
  try (repeat (go_quiet ((go_at_call 26; exact Calls.quiet_of_same ((floor_calls _ _).mono fun _ _ h => ⟨h.1, h.2.symm⟩))); try go_wp2_with (first | (go_at_call 26; (with_reducible refine (floor_calls _ _).mono ?_); rintro e w' ⟨rfl, rfl⟩))))
  go_ret2
  exact ⟨rfl, by repeat (first | exact Below.refl _ _ | refine Below.alloc ?_ (by simp) _ | apply bdn)⟩
set_option maxRecDepth 100000 in
set_option maxHeartbeats 4000000 in
theorem new_c6 (c_v c_base c_most c_tries c_losses c_wait c_raise : Int) (w : World) (hv : c_v = 6) (hb : ¬ c_base < floorOf c_v) (hb2 : c_most < c_base) : Calls Try.prog 9 #[.agg #[.int .i64 c_v, .int .i64 c_base, .int .i64 c_most, .int .i64 c_tries, .int .i64 c_losses, .int .i64 c_wait, .int .i64 c_raise]] w (Refused w) := by
  have hv_1 : (c_v != 4) = true := by rw [hv]; rfl
  have hv_2 : (c_v != 6) = false := by rw [hv]; rfl
  clear hv
  have hb_t : decide (c_base < floorOf c_v) = false := decide_eq_false hb
  have hb_u : floorOf c_v ≤ c_base := by omega
  clear hb
  have hb2_t : decide (c_most < c_base) = true := decide_eq_true hb2
  go_enter Try.func9, Try.ntmps9
  go_wp2_with (first | (go_at_call 26; (with_reducible refine (floor_calls _ _).mono ?_); rintro e w' ⟨rfl, rfl⟩))
  try (repeat (go_quiet ((go_at_call 26; exact Calls.quiet_of_same ((floor_calls _ _).mono fun _ _ h => ⟨h.1, h.2.symm⟩))); try go_wp2_with (first | (go_at_call 26; (with_reducible refine (floor_calls _ _).mono ?_); rintro e w' ⟨rfl, rfl⟩))))
  go_ret2
  exact ⟨rfl, by repeat (first | exact Below.refl _ _ | refine Below.alloc ?_ (by simp) _ | apply bdn)⟩
set_option maxRecDepth 100000 in
set_option maxHeartbeats 4000000 in
theorem new_d6 (c_v c_base c_most c_tries c_losses c_wait c_raise : Int) (w : World) (hv : c_v = 6) (hb : ¬ c_base < floorOf c_v) (hb2 : ¬ c_most < c_base) (hb3 : 65535 < c_most) : Calls Try.prog 9 #[.agg #[.int .i64 c_v, .int .i64 c_base, .int .i64 c_most, .int .i64 c_tries, .int .i64 c_losses, .int .i64 c_wait, .int .i64 c_raise]] w (Refused w) := by
  have hv_1 : (c_v != 4) = true := by rw [hv]; rfl
  have hv_2 : (c_v != 6) = false := by rw [hv]; rfl
  clear hv
  have hb_t : decide (c_base < floorOf c_v) = false := decide_eq_false hb
  have hb_u : floorOf c_v ≤ c_base := by omega
  clear hb
  have hb2_t : decide (c_most < c_base) = false := decide_eq_false hb2
  have hb2_u : c_base ≤ c_most := by omega
  clear hb2
  have hb3_t : decide (65535 < c_most) = true := decide_eq_true hb3
  go_enter Try.func9, Try.ntmps9
  go_wp2_with (first | (go_at_call 26; (with_reducible refine (floor_calls _ _).mono ?_); rintro e w' ⟨rfl, rfl⟩))
  try (repeat (go_quiet ((go_at_call 26; exact Calls.quiet_of_same ((floor_calls _ _).mono fun _ _ h => ⟨h.1, h.2.symm⟩))); try go_wp2_with (first | (go_at_call 26; (with_reducible refine (floor_calls _ _).mono ?_); rintro e w' ⟨rfl, rfl⟩))))
  go_ret2
  exact ⟨rfl, by repeat (first | exact Below.refl _ _ | refine Below.alloc ?_ (by simp) _ | apply bdn)⟩
set_option maxRecDepth 100000 in
set_option maxHeartbeats 4000000 in
theorem new_e6 (c_v c_base c_most c_tries c_losses c_wait c_raise : Int) (w : World) (hv : c_v = 6) (hb : ¬ c_base < floorOf c_v) (hb2 : ¬ c_most < c_base) (hb3 : ¬ 65535 < c_most)  (t0 : inB c_tries 1 16 = false) : Calls Try.prog 9 #[.agg #[.int .i64 c_v, .int .i64 c_base, .int .i64 c_most, .int .i64 c_tries, .int .i64 c_losses, .int .i64 c_wait, .int .i64 c_raise]] w (Refused w) := by
  have hv_1 : (c_v != 4) = true := by rw [hv]; rfl
  have hv_2 : (c_v != 6) = false := by rw [hv]; rfl
  clear hv
  have hb_t : decide (c_base < floorOf c_v) = false := decide_eq_false hb
  have hb_u : floorOf c_v ≤ c_base := by omega
  clear hb
  have hb2_t : decide (c_most < c_base) = false := decide_eq_false hb2
  have hb2_u : c_base ≤ c_most := by omega
  clear hb2
  have hb3_t : decide (65535 < c_most) = false := decide_eq_false hb3
  have hb3_u : c_most ≤ 65535 := by omega
  clear hb3
  have T0 := Lib.hid t0
  clear t0
  go_enter Try.func9, Try.ntmps9
  go_wp2_with (first | (go_at_call 26; (with_reducible refine (floor_calls _ _).mono ?_); rintro e w' ⟨rfl, rfl⟩) | (go_at_call 25; (with_reducible refine (within_val c_tries _ _ _ T0.out _).mono ?_); rintro e w' ⟨rfl, rfl⟩))
  try (repeat (go_quiet ((go_at_call 26; exact Calls.quiet_of_same ((floor_calls _ _).mono fun _ _ h => ⟨h.1, h.2.symm⟩))); try go_wp2_with (first | (go_at_call 26; (with_reducible refine (floor_calls _ _).mono ?_); rintro e w' ⟨rfl, rfl⟩) | (go_at_call 25; (with_reducible refine (within_val c_tries _ _ _ T0.out _).mono ?_); rintro e w' ⟨rfl, rfl⟩))))
  go_ret2
  exact ⟨rfl, by repeat (first | exact Below.refl _ _ | refine Below.alloc ?_ (by simp) _ | apply bdn)⟩
set_option maxRecDepth 100000 in
set_option maxHeartbeats 4000000 in
theorem new_f6 (c_v c_base c_most c_tries c_losses c_wait c_raise : Int) (w : World) (hv : c_v = 6) (hb : ¬ c_base < floorOf c_v) (hb2 : ¬ c_most < c_base) (hb3 : ¬ 65535 < c_most) (t0 : inB c_tries 1 16 = true) (t1 : inB c_losses 1 64 = false) : Calls Try.prog 9 #[.agg #[.int .i64 c_v, .int .i64 c_base, .int .i64 c_most, .int .i64 c_tries, .int .i64 c_losses, .int .i64 c_wait, .int .i64 c_raise]] w (Refused w) := by
  have hv_1 : (c_v != 4) = true := by rw [hv]; rfl
  have hv_2 : (c_v != 6) = false := by rw [hv]; rfl
  clear hv
  have hb_t : decide (c_base < floorOf c_v) = false := decide_eq_false hb
  have hb_u : floorOf c_v ≤ c_base := by omega
  clear hb
  have hb2_t : decide (c_most < c_base) = false := decide_eq_false hb2
  have hb2_u : c_base ≤ c_most := by omega
  clear hb2
  have hb3_t : decide (65535 < c_most) = false := decide_eq_false hb3
  have hb3_u : c_most ≤ 65535 := by omega
  clear hb3
  have T0 := Lib.hid t0
  clear t0
  have T1 := Lib.hid t1
  clear t1
  go_enter Try.func9, Try.ntmps9
  go_wp2_with (first | (go_at_call 26; (with_reducible refine (floor_calls _ _).mono ?_); rintro e w' ⟨rfl, rfl⟩) | (go_at_call 25; (with_reducible refine (within_val c_tries _ _ _ T0.out _).mono ?_); rintro e w' ⟨rfl, rfl⟩) | (go_at_call 25; (with_reducible refine (within_val c_losses _ _ _ T1.out _).mono ?_); rintro e w' ⟨rfl, rfl⟩))
  try (repeat (go_quiet ((go_at_call 26; exact Calls.quiet_of_same ((floor_calls _ _).mono fun _ _ h => ⟨h.1, h.2.symm⟩))); try go_wp2_with (first | (go_at_call 26; (with_reducible refine (floor_calls _ _).mono ?_); rintro e w' ⟨rfl, rfl⟩) | (go_at_call 25; (with_reducible refine (within_val c_tries _ _ _ T0.out _).mono ?_); rintro e w' ⟨rfl, rfl⟩) | (go_at_call 25; (with_reducible refine (within_val c_losses _ _ _ T1.out _).mono ?_); rintro e w' ⟨rfl, rfl⟩))))
  go_ret2
  exact ⟨rfl, by repeat (first | exact Below.refl _ _ | refine Below.alloc ?_ (by simp) _ | apply bdn)⟩
set_option maxRecDepth 100000 in
set_option maxHeartbeats 4000000 in
theorem new_g6 (c_v c_base c_most c_tries c_losses c_wait c_raise : Int) (w : World) (hv : c_v = 6) (hb : ¬ c_base < floorOf c_v) (hb2 : ¬ c_most < c_base) (hb3 : ¬ 65535 < c_most) (t0 : inB c_tries 1 16 = true) (t1 : inB c_losses 1 64 = true) (t2 : inB c_wait 1 1099511627776 = false) : Calls Try.prog 9 #[.agg #[.int .i64 c_v, .int .i64 c_base, .int .i64 c_most, .int .i64 c_tries, .int .i64 c_losses, .int .i64 c_wait, .int .i64 c_raise]] w (Refused w) := by
  have hv_1 : (c_v != 4) = true := by rw [hv]; rfl
  have hv_2 : (c_v != 6) = false := by rw [hv]; rfl
  clear hv
  have hb_t : decide (c_base < floorOf c_v) = false := decide_eq_false hb
  have hb_u : floorOf c_v ≤ c_base := by omega
  clear hb
  have hb2_t : decide (c_most < c_base) = false := decide_eq_false hb2
  have hb2_u : c_base ≤ c_most := by omega
  clear hb2
  have hb3_t : decide (65535 < c_most) = false := decide_eq_false hb3
  have hb3_u : c_most ≤ 65535 := by omega
  clear hb3
  have T0 := Lib.hid t0
  clear t0
  have T1 := Lib.hid t1
  clear t1
  have T2 := Lib.hid t2
  clear t2
  go_enter Try.func9, Try.ntmps9
  go_wp2_with (first | (go_at_call 26; (with_reducible refine (floor_calls _ _).mono ?_); rintro e w' ⟨rfl, rfl⟩) | (go_at_call 25; (with_reducible refine (within_val c_tries _ _ _ T0.out _).mono ?_); rintro e w' ⟨rfl, rfl⟩) | (go_at_call 25; (with_reducible refine (within_val c_losses _ _ _ T1.out _).mono ?_); rintro e w' ⟨rfl, rfl⟩) | (go_at_call 25; (with_reducible refine (within_val c_wait _ _ _ T2.out _).mono ?_); rintro e w' ⟨rfl, rfl⟩))
  try (repeat (go_quiet ((go_at_call 26; exact Calls.quiet_of_same ((floor_calls _ _).mono fun _ _ h => ⟨h.1, h.2.symm⟩))); try go_wp2_with (first | (go_at_call 26; (with_reducible refine (floor_calls _ _).mono ?_); rintro e w' ⟨rfl, rfl⟩) | (go_at_call 25; (with_reducible refine (within_val c_tries _ _ _ T0.out _).mono ?_); rintro e w' ⟨rfl, rfl⟩) | (go_at_call 25; (with_reducible refine (within_val c_losses _ _ _ T1.out _).mono ?_); rintro e w' ⟨rfl, rfl⟩) | (go_at_call 25; (with_reducible refine (within_val c_wait _ _ _ T2.out _).mono ?_); rintro e w' ⟨rfl, rfl⟩))))
  go_ret2
  exact ⟨rfl, by repeat (first | exact Below.refl _ _ | refine Below.alloc ?_ (by simp) _ | apply bdn)⟩
set_option maxRecDepth 100000 in
set_option maxHeartbeats 4000000 in
theorem new_h6 (c_v c_base c_most c_tries c_losses c_wait c_raise : Int) (w : World) (hv : c_v = 6) (hb : ¬ c_base < floorOf c_v) (hb2 : ¬ c_most < c_base) (hb3 : ¬ 65535 < c_most) (t0 : inB c_tries 1 16 = true) (t1 : inB c_losses 1 64 = true) (t2 : inB c_wait 1 1099511627776 = true) (t3 : inB c_raise 1 1099511627776 = false) : Calls Try.prog 9 #[.agg #[.int .i64 c_v, .int .i64 c_base, .int .i64 c_most, .int .i64 c_tries, .int .i64 c_losses, .int .i64 c_wait, .int .i64 c_raise]] w (Refused w) := by
  have hv_1 : (c_v != 4) = true := by rw [hv]; rfl
  have hv_2 : (c_v != 6) = false := by rw [hv]; rfl
  clear hv
  have hb_t : decide (c_base < floorOf c_v) = false := decide_eq_false hb
  have hb_u : floorOf c_v ≤ c_base := by omega
  clear hb
  have hb2_t : decide (c_most < c_base) = false := decide_eq_false hb2
  have hb2_u : c_base ≤ c_most := by omega
  clear hb2
  have hb3_t : decide (65535 < c_most) = false := decide_eq_false hb3
  have hb3_u : c_most ≤ 65535 := by omega
  clear hb3
  have T0 := Lib.hid t0
  clear t0
  have T1 := Lib.hid t1
  clear t1
  have T2 := Lib.hid t2
  clear t2
  have T3 := Lib.hid t3
  clear t3
  go_enter Try.func9, Try.ntmps9
  go_wp2_with (first | (go_at_call 26; (with_reducible refine (floor_calls _ _).mono ?_); rintro e w' ⟨rfl, rfl⟩) | (go_at_call 25; (with_reducible refine (within_val c_tries _ _ _ T0.out _).mono ?_); rintro e w' ⟨rfl, rfl⟩) | (go_at_call 25; (with_reducible refine (within_val c_losses _ _ _ T1.out _).mono ?_); rintro e w' ⟨rfl, rfl⟩) | (go_at_call 25; (with_reducible refine (within_val c_wait _ _ _ T2.out _).mono ?_); rintro e w' ⟨rfl, rfl⟩) | (go_at_call 25; (with_reducible refine (within_val c_raise _ _ _ T3.out _).mono ?_); rintro e w' ⟨rfl, rfl⟩))
  try (repeat (go_quiet ((go_at_call 26; exact Calls.quiet_of_same ((floor_calls _ _).mono fun _ _ h => ⟨h.1, h.2.symm⟩))); try go_wp2_with (first | (go_at_call 26; (with_reducible refine (floor_calls _ _).mono ?_); rintro e w' ⟨rfl, rfl⟩) | (go_at_call 25; (with_reducible refine (within_val c_tries _ _ _ T0.out _).mono ?_); rintro e w' ⟨rfl, rfl⟩) | (go_at_call 25; (with_reducible refine (within_val c_losses _ _ _ T1.out _).mono ?_); rintro e w' ⟨rfl, rfl⟩) | (go_at_call 25; (with_reducible refine (within_val c_wait _ _ _ T2.out _).mono ?_); rintro e w' ⟨rfl, rfl⟩) | (go_at_call 25; (with_reducible refine (within_val c_raise _ _ _ T3.out _).mono ?_); rintro e w' ⟨rfl, rfl⟩))))
  go_ret2
  exact ⟨rfl, by repeat (first | exact Below.refl _ _ | refine Below.alloc ?_ (by simp) _ | apply bdn)⟩
set_option maxRecDepth 100000 in
set_option maxHeartbeats 4000000 in
theorem new_i6 (c_v c_base c_most c_tries c_losses c_wait c_raise : Int) (w : World) (hv : c_v = 6) (hb : ¬ c_base < floorOf c_v) (hb2 : ¬ c_most < c_base) (hb3 : ¬ 65535 < c_most) (t0 : inB c_tries 1 16 = true) (t1 : inB c_losses 1 64 = true) (t2 : inB c_wait 1 1099511627776 = true) (t3 : inB c_raise 1 1099511627776 = true) : Calls Try.prog 9 #[.agg #[.int .i64 c_v, .int .i64 c_base, .int .i64 c_most, .int .i64 c_tries, .int .i64 c_losses, .int .i64 c_wait, .int .i64 c_raise]] w (Made ⟨c_v, c_base, c_most, c_tries, c_losses, c_wait, c_raise⟩ w) := by
  have hv_1 : (c_v != 4) = true := by rw [hv]; rfl
  have hv_2 : (c_v != 6) = false := by rw [hv]; rfl
  clear hv
  have hb_t : decide (c_base < floorOf c_v) = false := decide_eq_false hb
  have hb_u : floorOf c_v ≤ c_base := by omega
  clear hb
  have hb2_t : decide (c_most < c_base) = false := decide_eq_false hb2
  have hb2_u : c_base ≤ c_most := by omega
  clear hb2
  have hb3_t : decide (65535 < c_most) = false := decide_eq_false hb3
  have hb3_u : c_most ≤ 65535 := by omega
  clear hb3
  have T0 := Lib.hid t0
  clear t0
  have T1 := Lib.hid t1
  clear t1
  have T2 := Lib.hid t2
  clear t2
  have T3 := Lib.hid t3
  clear t3
  go_enter Try.func9, Try.ntmps9
  go_wp2_with (first | (go_at_call 26; (with_reducible refine (floor_calls _ _).mono ?_); rintro e w' ⟨rfl, rfl⟩) | (go_at_call 25; (with_reducible refine (within_val c_tries _ _ _ T0.out _).mono ?_); rintro e w' ⟨rfl, rfl⟩) | (go_at_call 25; (with_reducible refine (within_val c_losses _ _ _ T1.out _).mono ?_); rintro e w' ⟨rfl, rfl⟩) | (go_at_call 25; (with_reducible refine (within_val c_wait _ _ _ T2.out _).mono ?_); rintro e w' ⟨rfl, rfl⟩) | (go_at_call 25; (with_reducible refine (within_val c_raise _ _ _ T3.out _).mono ?_); rintro e w' ⟨rfl, rfl⟩))
  try (repeat (go_quiet ((go_at_call 26; exact Calls.quiet_of_same ((floor_calls _ _).mono fun _ _ h => ⟨h.1, h.2.symm⟩))); try go_wp2_with (first | (go_at_call 26; (with_reducible refine (floor_calls _ _).mono ?_); rintro e w' ⟨rfl, rfl⟩) | (go_at_call 25; (with_reducible refine (within_val c_tries _ _ _ T0.out _).mono ?_); rintro e w' ⟨rfl, rfl⟩) | (go_at_call 25; (with_reducible refine (within_val c_losses _ _ _ T1.out _).mono ?_); rintro e w' ⟨rfl, rfl⟩) | (go_at_call 25; (with_reducible refine (within_val c_wait _ _ _ T2.out _).mono ?_); rintro e w' ⟨rfl, rfl⟩) | (go_at_call 25; (with_reducible refine (within_val c_raise _ _ _ T3.out _).mono ?_); rintro e w' ⟨rfl, rfl⟩))))
  go_ret2
  refine ⟨_, rfl, ?_, ?_, ?_⟩
  · simp
  · exact Blk.new_at (by simp)
  · repeat (first | exact Below.refl _ _ | refine Below.alloc ?_ (by simp) _ | apply bdn)
end Go.Proofs.Ytmanojnhjhpokaa.PB
