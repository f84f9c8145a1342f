/- SumAdds, as a statement over numbers: order and grouping of three sums do not matter; 0, 65535 and what lacks to it. Conditions: the three numbers are of 16 bits. -/
import Derived.Test.YtoijfhcmjolecaaPAllx2
import Derived.Test.YtoijfhcmjolecaaSumE
namespace Go.Proofs.Ytoijfhcmjolecaa.Pure
set_option linter.unusedVariables false
set_option linter.unusedSimpArgs false
open Go.RowKit Go.Proofs.Ytoijfhcmjolecaa.PAll Go.Proofs.YtoijfhcmjolecaaW.PrintWords Go.Proofs.YtoijfhcmjolecaaW.PrintLast Go.Proofs.Ytoijfhcmjolecaa.SumT Go.Proofs.Ytoijfhcmjolecaa.SumE

theorem adds_j1 {a b : Int} (ha : 0 ≤ a ∧ a ≤ 65535) (hb : 0 ≤ b ∧ b ≤ 65535) : Ev (fun k => mosaiclaw01_SumAdds.j1 k a b false) true := by
  have ho := osum_zero (a + b) (by omega)
  by_cases h : a > 0
  · refine Ev.step (f := fun k => (sum_Add.f k a 65535).bind fun t145 => (if t145 = a then ((sum_Add.f k a b).bind fun t146 => (if a = 0 then (some ((t146 == 0) == (b == 0))) else (some ((t146 == 0) == false)))) else (some false))) (fun k => ?_) ?_
    · simp only [mosaiclaw01_SumAdds.j1]; rw [if_neg (by simp), if_pos h]
    · have e : osum (a + 65535) = a := (osum_of (n := a + 65535) (by omega) ha.1 ha.2 (by omega) (by omega)).symm
      have h1 := add_any ha (b := 65535) (by omega)
      rw [e] at h1
      refine Ev.bind (f := fun k t => if t = a then _ else _) h1 ?_
      simp only [if_true]
      refine Ev.bind (f := fun k t => if a = 0 then some ((t == 0) == (b == 0)) else some ((t == 0) == false)) (add_any ha hb) ?_
      rw [if_neg (by omega)]
      have : (osum (a + b) == 0) = false := by rw [beq_eq_false_iff_ne]; omega
      rw [this]; exact Ev.now _
  · refine Ev.step (f := fun k => (sum_Add.f k a b).bind fun t147 => (if a = 0 then (some ((t147 == 0) == (b == 0))) else (some ((t147 == 0) == false)))) (fun k => ?_) ?_
    · simp only [mosaiclaw01_SumAdds.j1]; rw [if_neg (by simp), if_neg h]
    · refine Ev.bind (f := fun k t => if a = 0 then some ((t == 0) == (b == 0)) else some ((t == 0) == false)) (add_any ha hb) ?_
      rw [if_pos (by omega)]
      have : (osum (a + b) == 0) = (b == 0) := by rw [Bool.eq_iff_iff, beq_iff_eq, beq_iff_eq]; omega
      rw [this]; simp; exact Ev.now _

theorem adds_j0 {a b : Int} (ha : 0 ≤ a ∧ a ≤ 65535) (hb : 0 ≤ b ∧ b ≤ 65535) : Ev (fun k => mosaiclaw01_SumAdds.j0 k a b false) true := by
  refine Ev.step (f := fun k => (sum_Add.f k a 0).bind fun t142 => (if t142 = a then ((sum_Add.f k a (IntKind.u16.wrap (65535 - a))).bind fun t143 => (if t143 = 65535 then ((sum_Add.f k 0 65535).bind fun t144 => (mosaiclaw01_SumAdds.j1 k a b (t144 != 65535))) else (mosaiclaw01_SumAdds.j1 k a b true))) else (mosaiclaw01_SumAdds.j1 k a b true))) (fun k => ?_) ?_
  · simp only [mosaiclaw01_SumAdds.j0]; rw [if_neg (by simp)]
  · have h1 := add_any ha (b := 0) (by omega)
    rw [Int.add_zero, osum_small ha.1 ha.2] at h1
    refine Ev.bind (f := fun k t => if t = a then _ else _) h1 ?_
    simp only [if_true]
    have h2 := add_any ha (b := 65535 - a) (by omega)
    rw [show a + (65535 - a) = 65535 by omega, osum_small (by omega) (by omega)] at h2
    rw [wrap_u16 (65535 - a) (by omega) (by omega)]
    refine Ev.bind (f := fun k t => if t = 65535 then _ else _) h2 ?_
    simp only [if_true]
    have h3 := add_any (a := 0) (b := 65535) (by omega) (by omega)
    rw [show (0 : Int) + 65535 = 65535 by omega, osum_small (by omega) (by omega)] at h3
    exact Ev.bind (f := fun k t => mosaiclaw01_SumAdds.j1 k a b (t != 65535)) h3 (adds_j1 ha hb)

theorem SumAdds : mosaiclaw01_SumAdds.Pure := by
  intro a b c wa wb wc
  have ha := Go.bounds_u16 wa
  have hb := Go.bounds_u16 wb
  have hc := Go.bounds_u16 wc
  refine Ev.rounds ?_
  unfold mosaiclaw01_SumAdds.f
  refine Ev.bind (f := fun k t => if t = true then _ else _) known_any ?_
  simp only [if_true]
  refine Ev.bind (f := fun k t => (sum_Add.f k b a).bind fun t138 => if t = t138 then _ else _) (add_any ha hb) ?_
  refine Ev.bind (f := fun k t => if osum (a + b) = t then _ else _) (add_any hb ha) ?_
  rw [Int.add_comm b a]
  simp only [if_true]
  have hab := osum_le (a + b) (by omega)
  have hbc := osum_le (b + c) (by omega)
  refine Ev.bind (f := fun k t => (sum_Add.f k b c).bind fun t140 => (sum_Add.f k a t140).bind fun t141 => _) (add_any hab hc) ?_
  refine Ev.bind (f := fun k t => (sum_Add.f k a t).bind fun t141 => _) (add_any hb hc) ?_
  refine Ev.bind (f := fun k t => mosaiclaw01_SumAdds.j0 k a b (osum (osum (a + b) + c) != t)) (add_any ha hbc) ?_
  rw [osum_add_l _ _ (by omega) (by omega), osum_add_r _ _ (by omega) (by omega), show a + (b + c) = a + b + c by omega]
  simpa using adds_j0 ha hb
end Go.Proofs.Ytoijfhcmjolecaa.Pure
