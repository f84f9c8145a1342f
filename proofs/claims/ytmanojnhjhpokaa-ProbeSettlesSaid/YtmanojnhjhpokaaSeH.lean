/- halvings and stands. Conditions: halvings: its number is from 1 to 65536; stands: the path stands where it must. -/
import Derived.Test.YtmanojnhjhpokaaSeG
import Derived.Test.YtmanojnhjhpokaaHoB
namespace Go.Proofs.Ytmanojnhjhpokaa.PB
set_option linter.unusedVariables false
set_option linter.unusedSimpArgs false
open Go.RowKit
theorem two_lt {i : Nat} (h : (2 : Int) ^ i < 65536) : i < 16 := by
  rcases Nat.lt_or_ge i 16 with h1 | h1
  · exact h1
  · exfalso
    obtain ⟨k, rfl⟩ := Nat.exists_eq_add_of_le h1
    rw [Int.pow_add] at h
    have : (1 : Int) ≤ 2 ^ k := by
      have := Int.pow_pos (n := 2) (m := k) (by decide)
      omega
    have e : (2 : Int) ^ 16 = 65536 := by decide
    rw [e] at h
    omega
set_option maxRecDepth 100000 in
set_option maxHeartbeats 4000000 in
theorem halvings_calls (n : Int) (w : World) (h0 : 1 ≤ n) (h1 : n ≤ 65536) :
    Calls Try.prog 19 #[.int .i64 n] w fun e w' => ∃ b : Nat, e = .returned (.int .i64 b) ∧ n ≤ 2 ^ b ∧ b ≤ 16 ∧ w = w' := by
  go_enter Try.func19, Try.ntmps19
  go_wp2_with fail
  go_loopg [3, 4] 17 (fun kq v3 v4 wr => ∃ (i : Nat) (z : Int), v3 = .int .i64 i ∧ v4 = .int .i64 z ∧ i + kq = 17 ∧ i ≤ 16 ∧ 1 ≤ z ∧ z ≤ 65536 ∧ Hid (z = 2 ^ i) ∧ w = wr)
  case atStart => exact ⟨0, 1, rfl, rfl, rfl, by decide, by decide, by decide, Lib.hid rfl, rfl⟩
  case round =>
    obtain ⟨i, z, rfl, rfl, hi, hi2, hz1, hz2, hz, rfl⟩ := hrel
    by_cases hlt : z < n
    · have e1 : decide (z < n) = true := decide_eq_true hlt
      have i16 : i < 16 := two_lt (by rw [← hz.out]; omega)
      have hzz : Hid (2 * z = 2 ^ (i + 1)) := Lib.hid (by rw [hz.out, Int.pow_succ]; omega)
      have h2 : 2 * z ≤ 65536 := by
        have e : (2 : Int) ^ (i + 1) ≤ 2 ^ 16 := by
          have := Nat.pow_le_pow_right (n := 2) (by decide) (show i + 1 ≤ 16 by omega)
          exact_mod_cast this
        have e2 : (2 : Int) ^ 16 = 65536 := by decide
        rw [hzz.out]; omega
      go_wp2_with fail
      go_roundg (gk - 1)
      case measure => omega
      case rel => exact ⟨i + 1, 2 * z, by go_num, by go_num, by omega, by omega, by omega, h2, hzz, rfl⟩
    · have e1 : decide (z < n) = false := decide_eq_false hlt
      go_wp2_with fail
      go_ret
      exact ⟨i, rfl, by rw [← hz.out]; omega, hi2, rfl⟩
end Go.Proofs.Ytmanojnhjhpokaa.PB
