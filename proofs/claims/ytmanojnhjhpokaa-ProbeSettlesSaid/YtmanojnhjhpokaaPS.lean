/- State and Size of a path leave the world alone; least is the floor. Conditions: the path lies in one block that is known whole. -/
import Derived.Test.YtmanojnhjhpokaaPC
namespace Go.Proofs.Ytmanojnhjhpokaa.PB
set_option linter.unusedVariables false
set_option linter.unusedSimpArgs false
open Go.RowKit
set_option maxRecDepth 100000 in
theorem state_same (s : Pt) (g : Nat) (w : World) (h : Is w g s) : Calls Try.prog 14 #[.pointer (some ⟨g, 0, none⟩)] w fun e w' => e = .returned (.int .i64 s.state) ∧ w = w' := by
  obtain ⟨c0_0, c0_1, c0_2, c0_3, c0_4, c0_5, c0_6, c0_7, c0_8, c0_9, c0_10, c0_11, c0_12, c0_13, c0_14, c0_15, c0_16, c0_17, c0_18, c0_19, c0_20⟩ := Is.all h
  clear h
  go_enter Try.func14, Try.ntmps14
  go_wp2
  go_ret
  exact ⟨rfl, rfl⟩
set_option maxRecDepth 100000 in
theorem size_same (s : Pt) (g : Nat) (w : World) (h : Is w g s) : Calls Try.prog 15 #[.pointer (some ⟨g, 0, none⟩)] w fun e w' => e = .returned (.int .i64 s.size) ∧ w = w' := by
  obtain ⟨c0_0, c0_1, c0_2, c0_3, c0_4, c0_5, c0_6, c0_7, c0_8, c0_9, c0_10, c0_11, c0_12, c0_13, c0_14, c0_15, c0_16, c0_17, c0_18, c0_19, c0_20⟩ := Is.all h
  clear h
  unfold Pt.size
  by_cases h1 : s.state = 1
  · rw [if_pos h1]
    have h1t : (s.state == 1) = true := beq_iff_eq.2 h1
    clear h1
    go_enter Try.func15, Try.ntmps15
    go_wp2
    go_ret
    exact ⟨rfl, rfl⟩
  · rw [if_neg h1]
    have h1f : (s.state == 1) = false := beq_eq_false_iff_ne.2 h1
    clear h1
    by_cases h2 : s.state = 4
    · rw [if_pos h2]
      have h2t : (s.state == 4) = true := beq_iff_eq.2 h2
      clear h2
      go_enter Try.func15, Try.ntmps15
      go_wp2_with (go_at_call 26; refine (floor_calls _ _).mono ?_; rintro e w' ⟨rfl, rfl⟩)
      go_ret
      exact ⟨rfl, rfl⟩
    · rw [if_neg h2]
      have h2f : (s.state == 4) = false := beq_eq_false_iff_ne.2 h2
      clear h2
      go_enter Try.func15, Try.ntmps15
      go_wp2
      go_ret
      exact ⟨rfl, rfl⟩
theorem least_calls (v : Int) (w : World) : Calls Try.prog 17 #[.int .i64 v] w fun e w' => e = .returned (.int .i64 (floorOf v)) ∧ w = w' := by
  unfold floorOf
  by_cases h : v = 6
  · rw [if_pos h]
    have h' : (v == 6) = true := beq_iff_eq.2 h
    clear h
    go_enter Try.func17, Try.ntmps17
    go_wp2
    go_ret
    exact ⟨rfl, rfl⟩
  · rw [if_neg h]
    have h' : (v == 6) = false := beq_eq_false_iff_ne.2 h
    clear h
    go_enter Try.func17, Try.ntmps17
    go_wp2
    go_ret
    exact ⟨rfl, rfl⟩
end Go.Proofs.Ytmanojnhjhpokaa.PB
