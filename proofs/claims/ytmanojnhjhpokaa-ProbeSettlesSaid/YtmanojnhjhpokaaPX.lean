/- Contract of probe.New, whatever it is given. Conditions: none. -/
import Derived.Test.YtmanojnhjhpokaaPW
namespace Go.Proofs.Ytmanojnhjhpokaa.PB
set_option linter.unusedVariables false
set_option linter.unusedSimpArgs false
open Go.RowKit
theorem inB_iff (n a b : Int) : inB n a b = true ↔ a ≤ n ∧ n ≤ b := by
  unfold inB; split
  · rename_i h; rw [decide_eq_true_iff]; exact ⟨fun k => ⟨h, k⟩, fun k => k.2⟩
  · rename_i h; exact ⟨fun k => (by cases k), fun k => absurd k.1 h⟩
/-- probe.New, whatever it is given. -/
theorem new_calls (c : Cfg) (w : World) : Calls Try.prog 9 #[c.val] w fun e w' => (c.Ok → Made c w e w') ∧ (¬ c.Ok → Refused w e w') := by
  obtain ⟨c_v, c_base, c_most, c_tries, c_losses, c_wait, c_raise⟩ := c
  have bad : (¬ (Cfg.mk c_v c_base c_most c_tries c_losses c_wait c_raise).Ok) → Calls Try.prog 9 #[(Cfg.mk c_v c_base c_most c_tries c_losses c_wait c_raise).val] w (Refused w) → Calls Try.prog 9 #[(Cfg.mk c_v c_base c_most c_tries c_losses c_wait c_raise).val] w fun e w' => ((Cfg.mk c_v c_base c_most c_tries c_losses c_wait c_raise).Ok → Made (Cfg.mk c_v c_base c_most c_tries c_losses c_wait c_raise) w e w') ∧ (¬ (Cfg.mk c_v c_base c_most c_tries c_losses c_wait c_raise).Ok → Refused w e w') :=
    fun hn hc => hc.mono fun e w' h => ⟨fun k => absurd k hn, fun _ => h⟩
  by_cases v4 : c_v = 4
  · by_cases b1 : c_base < floorOf c_v
    · exact bad (fun k => by have := k.base; simp only at this; omega) (new_b4 _ _ _ _ _ _ _ _ v4 b1)
    by_cases b2 : c_most < c_base
    · exact bad (fun k => by have := k.most; simp only at this; omega) (new_c4 _ _ _ _ _ _ _ _ v4 b1 b2)
    by_cases b3 : 65535 < c_most
    · exact bad (fun k => by have := k.most1; simp only at this; omega) (new_d4 _ _ _ _ _ _ _ _ v4 b1 b2 b3)
    cases t0 : inB c_tries 1 16
    · exact bad (fun k => by have := k.tries; rw [(inB_iff c_tries 1 16).2 this] at t0; cases t0) (new_e4 _ _ _ _ _ _ _ _ v4 b1 b2 b3 t0)
    cases t1 : inB c_losses 1 64
    · exact bad (fun k => by have := k.losses; rw [(inB_iff c_losses 1 64).2 this] at t1; cases t1) (new_f4 _ _ _ _ _ _ _ _ v4 b1 b2 b3 t0 t1)
    cases t2 : inB c_wait 1 1099511627776
    · exact bad (fun k => by have := k.wait; rw [(inB_iff c_wait 1 1099511627776).2 this] at t2; cases t2) (new_g4 _ _ _ _ _ _ _ _ v4 b1 b2 b3 t0 t1 t2)
    cases t3 : inB c_raise 1 1099511627776
    · exact bad (fun k => by have := k.raise; rw [(inB_iff c_raise 1 1099511627776).2 this] at t3; cases t3) (new_h4 _ _ _ _ _ _ _ _ v4 b1 b2 b3 t0 t1 t2 t3)
    exact (new_i4 _ _ _ _ _ _ _ _ v4 b1 b2 b3 t0 t1 t2 t3).mono fun e w' h => ⟨fun _ => h, fun k => absurd ⟨.inl v4, by simp only; omega, by simp only; omega, by simp only; omega, (inB_iff _ _ _).1 t0, (inB_iff _ _ _).1 t1, (inB_iff _ _ _).1 t2, (inB_iff _ _ _).1 t3⟩ k⟩
  by_cases v6 : c_v = 6
  · by_cases b1 : c_base < floorOf c_v
    · exact bad (fun k => by have := k.base; simp only at this; omega) (new_b6 _ _ _ _ _ _ _ _ v6 b1)
    by_cases b2 : c_most < c_base
    · exact bad (fun k => by have := k.most; simp only at this; omega) (new_c6 _ _ _ _ _ _ _ _ v6 b1 b2)
    by_cases b3 : 65535 < c_most
    · exact bad (fun k => by have := k.most1; simp only at this; omega) (new_d6 _ _ _ _ _ _ _ _ v6 b1 b2 b3)
    cases t0 : inB c_tries 1 16
    · exact bad (fun k => by have := k.tries; rw [(inB_iff c_tries 1 16).2 this] at t0; cases t0) (new_e6 _ _ _ _ _ _ _ _ v6 b1 b2 b3 t0)
    cases t1 : inB c_losses 1 64
    · exact bad (fun k => by have := k.losses; rw [(inB_iff c_losses 1 64).2 this] at t1; cases t1) (new_f6 _ _ _ _ _ _ _ _ v6 b1 b2 b3 t0 t1)
    cases t2 : inB c_wait 1 1099511627776
    · exact bad (fun k => by have := k.wait; rw [(inB_iff c_wait 1 1099511627776).2 this] at t2; cases t2) (new_g6 _ _ _ _ _ _ _ _ v6 b1 b2 b3 t0 t1 t2)
    cases t3 : inB c_raise 1 1099511627776
    · exact bad (fun k => by have := k.raise; rw [(inB_iff c_raise 1 1099511627776).2 this] at t3; cases t3) (new_h6 _ _ _ _ _ _ _ _ v6 b1 b2 b3 t0 t1 t2 t3)
    exact (new_i6 _ _ _ _ _ _ _ _ v6 b1 b2 b3 t0 t1 t2 t3).mono fun e w' h => ⟨fun _ => h, fun k => absurd ⟨.inr v6, by simp only; omega, by simp only; omega, by simp only; omega, (inB_iff _ _ _).1 t0, (inB_iff _ _ _).1 t1, (inB_iff _ _ _).1 t2, (inB_iff _ _ _).1 t3⟩ k⟩
  exact bad (fun k => by exact k.v.elim v4 v6) (new_v _ _ _ _ _ _ _ _ v4 v6)
end Go.Proofs.Ytmanojnhjhpokaa.PB
