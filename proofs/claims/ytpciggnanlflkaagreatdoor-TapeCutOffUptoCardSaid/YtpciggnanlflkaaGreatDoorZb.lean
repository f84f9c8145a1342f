/- The laws' rest and fit, plain; contract of rest. Conditions: none beyond those that each theorem states. -/
import Derived.Test.YtpciggnanlflkaaGreatDoorZa
namespace Go.Proofs.YtpciggnanlflkaaGreatDoor.Ad
set_option linter.unusedVariables false
set_option linter.unusedSimpArgs false
open Go.RowKit Go.Maps W
/-- A number from lo up to hi, made of any. -/
def restV (n lo hi : Int) : Int := lo + (n % 18446744073709551616) % (hi - lo + 1)
theorem restV_in {n lo hi : Int} (h : lo ≤ hi) : lo ≤ restV n lo hi ∧ restV n lo hi ≤ hi := by
  unfold restV
  have h1 := Int.emod_nonneg (n % 18446744073709551616) (show hi - lo + 1 ≠ 0 by omega)
  have h2 := Int.emod_lt_of_pos (n % 18446744073709551616) (show 0 < hi - lo + 1 by omega)
  omega
set_option maxRecDepth 100000 in
set_option maxHeartbeats 2000000 in
theorem rest_calls (n lo hi : Int) (h0 : 0 ≤ lo) (h1 : lo ≤ hi) (h2 : hi ≤ 2147483647) (hn : -9223372036854775808 ≤ n ∧ n ≤ 9223372036854775807) (w : World) : Calls Tryz.prog 26 #[.int .i64 n, .int .i64 lo, .int .i64 hi] w fun e w' => e = .returned (.int .i64 (restV n lo hi)) ∧ w' = w := by
  obtain ⟨n1, n2⟩ := hn
  obtain ⟨u, hu⟩ : ∃ u, n % 18446744073709551616 = u := ⟨_, rfl⟩
  have hu0 : 0 ≤ u := by omega
  have hu1 : u < 18446744073709551616 := by omega
  have HR : Hid (restV n lo hi = lo + u % (hi - lo + 1)) := Lib.hid (by unfold restV; rw [hu])
  have hm := Int.emod_nonneg u (show hi - lo + 1 ≠ 0 by omega)
  have hm2 := Int.emod_lt_of_pos u (show 0 < hi - lo + 1 by omega)
  have HU := Lib.hid hu
  clear hu
  have hw : IntKind.u64.wrap n = u := by rw [IntKind.wrap_u64, HU.out]
  go_enter Tryz.func26, Tryz.ntmps26
  go_wp2
  go_ret
  exact ⟨by rw [HR.out]; rfl, rfl⟩
end Go.Proofs.YtpciggnanlflkaaGreatDoor.Ad
