/- stands. Conditions: the path stands where it must. -/
import Derived.Test.YtmanojnhjhpokaaSeH
namespace Go.Proofs.Ytmanojnhjhpokaa.PB
set_option linter.unusedVariables false
set_option linter.unusedSimpArgs false
open Go.RowKit
set_option maxRecDepth 100000 in
set_option maxHeartbeats 4000000 in
theorem stands_calls (t : Pt) (d : Cfg) (m : Int) (g : Nat) (w : World) (h : Is w g t) (hs : Stand d m t) (hc : t.cfg = d) :
    Calls Try.prog 21 #[.pointer (some ⟨g, 0, none⟩), .agg #[.int .i64 d.v, .int .i64 d.base, .int .i64 d.most, .int .i64 d.tries, .int .i64 d.losses, .int .i64 d.wait, .int .i64 d.raise], .int .i64 m] w fun e w' => e = .returned (.bool true) ∧ Below w.heap.size w w' := by
  have hI : Hid (Is (w.alloc (.cells #[.int .i64 d.v, .int .i64 d.base, .int .i64 d.most, .int .i64 d.tries, .int .i64 d.losses, .int .i64 d.wait, .int .i64 d.raise] 30)) g t) := Lib.hid ((Put.refl h).alloc _).blk
  have hv : t.v = d.v := by rw [← hc]; rfl
  clear h hc
  have hB : Hid (Below w.heap.size w (w.alloc (.cells #[.int .i64 d.v, .int .i64 d.base, .int .i64 d.most, .int .i64 d.tries, .int .i64 d.losses, .int .i64 d.wait, .int .i64 d.raise] 30))) := Lib.hid ((Below.refl w.heap.size w).alloc (Nat.le_refl _) _)
  have HV := Lib.hid hv
  clear hv
  by_cases hlt : m < d.base
  · obtain ⟨_, h4⟩ : m < d.base ∧ t.state = 4 := by rcases hs with hs | hs; exact hs; omega
    have HS : Hid (t.state = 4) := Lib.hid h4
    have HZ : Hid (t.size = floorOf d.v) := Lib.hid (by unfold Pt.size; rw [h4, HV.out]; rfl)
    clear hs h4
    have e1 : decide (m < d.base) = true := decide_eq_true hlt
    clear hlt
    as_aux_lemma =>
    go_enter Try.func21, Try.ntmps21
    go_upto_region 127 with fail
    refine wp_named fun w1 hw1 => ?_
    have H1 : Hid (Is w1 g t) := Lib.hid (by rw [hw1]; exact hI.out)
    have B1 : Hid (Below w.heap.size w w1) := Lib.hid (by rw [hw1]; exact hB.out)
    have q1 : w1.cell? ⟨w.heap.size, 0, none⟩ = some (.int .i64 d.v) := by rw [hw1]; exact (Blk.new w 30 _).cell 0
    clear hw1 hI hB
    go_quiet (first
      | (go_at_call 14; exact Calls.quiet_of_same ((state_is t g 4 _ (by exact H1.out) HS).mono fun _ _ h => ⟨h.1, h.2.symm⟩))
      | (go_at_call 15; exact Calls.quiet_of_same ((size_base t g (floorOf d.v) _ (by exact H1.out) HZ).mono fun _ _ h => ⟨h.1, h.2.symm⟩))
      | (go_at_call 17; exact Calls.quiet_of_same ((least_calls _ _).mono fun _ _ h => ⟨h.1, h.2.symm⟩)))
    go_wp2_with fail
    go_ret
    exact ⟨by simp, bdn B1.out _⟩
  · obtain ⟨_, h3, hl⟩ : d.base ≤ m ∧ t.state = 3 ∧ t.low = min m d.most := by rcases hs with hs | hs; omega; exact hs
    have HS : Hid (t.state = 3) := Lib.hid h3
    have HZ : Hid (t.size = min m d.most) := Lib.hid (by rw [← hl]; unfold Pt.size; rw [h3]; rfl)
    clear hs h3 hl
    have e1 : decide (m < d.base) = false := decide_eq_false hlt
    clear hlt
    as_aux_lemma =>
    go_enter Try.func21, Try.ntmps21
    go_upto_region 129 with fail
    refine wp_named fun w1 hw1 => ?_
    have H1 : Hid (Is w1 g t) := Lib.hid (by rw [hw1]; exact hI.out)
    have B1 : Hid (Below w.heap.size w w1) := Lib.hid (by rw [hw1]; exact hB.out)
    have q1 : w1.cell? ⟨w.heap.size, 2, none⟩ = some (.int .i64 d.most) := by rw [hw1]; exact (Blk.new w 30 _).cell 2
    clear hw1 hI hB
    go_quiet (first
      | (go_at_call 14; exact Calls.quiet_of_same ((state_is t g 3 _ (by exact H1.out) HS).mono fun _ _ h => ⟨h.1, h.2.symm⟩))
      | (go_at_call 15; exact Calls.quiet_of_same ((size_base t g (min m d.most) _ (by exact H1.out) HZ).mono fun _ _ h => ⟨h.1, h.2.symm⟩)))
    go_wp2_with fail
    all_goals (go_ret; exact ⟨by first | (simp; done) | (simp; omega), bdn B1.out _⟩)
end Go.Proofs.Ytmanojnhjhpokaa.PB
