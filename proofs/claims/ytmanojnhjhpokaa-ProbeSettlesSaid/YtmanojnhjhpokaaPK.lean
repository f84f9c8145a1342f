/- What a path answers to each call, with the clock: plain Lean, no program. -/
import Derived.Test.YtmanojnhjhpokaaPI
namespace Go.Proofs.Ytmanojnhjhpokaa.PB
set_option linter.unusedVariables false
set_option linter.unusedSimpArgs false
namespace Pt
def late (s : Pt) (n : Int) : Prop := n < s.now ∨ 1099511627776 < n
instance (s : Pt) (n : Int) : Decidable (s.late n) := inferInstanceAs (Decidable (_ ∨ _))
def nextA (s : Pt) (n : Int) : (Int × Int × Int) × Pt := if s.late n then ((0, 0, 1), s) else (((({ s with now := n } : Pt).next n).1.1, (({ s with now := n } : Pt).next n).1.2, 0), (({ s with now := n } : Pt).next n).2)
def ackedA (s : Pt) (p n : Int) : (Bool × Int) × Pt := if s.late n then ((false, 1), s) else (((({ s with now := n } : Pt).acked p).1, 0), (({ s with now := n } : Pt).acked p).2)
def tooBigA (s : Pt) (p m n : Int) : (Bool × Int) × Pt := if s.late n then ((false, 1), s) else (((({ s with now := n } : Pt).tooBig p m).1, 0), (({ s with now := n } : Pt).tooBig p m).2)
def gotA (s : Pt) (m n : Int) : Int × Pt := if s.late n then (1, s) else (0, ({ s with now := n } : Pt).got m)
def lostA (s : Pt) (m n : Int) : (Bool × Int) × Pt := if s.late n then ((false, 1), s) else (((({ s with now := n } : Pt).lost m).1, 0), (({ s with now := n } : Pt).lost m).2)
end Pt
theorem Inv.nextA {K n : Int} {s : Pt} (h : Inv K s) : Inv (K + 1) (s.nextA n).2 := by
  unfold Pt.nextA; split
  · exact h.mono (by omega)
  · rename_i hl; unfold Pt.late at hl; exact (h.at_ (n := n) (by omega) (by omega)).next rfl
theorem Inv.ackedA {K p n : Int} {s : Pt} (h : Inv K s) : Inv K (s.ackedA p n).2 := by
  unfold Pt.ackedA; split
  · exact h
  · rename_i hl; unfold Pt.late at hl; exact (h.at_ (n := n) (by omega) (by omega)).acked
theorem Inv.tooBigA {K p m n : Int} {s : Pt} (h : Inv K s) : Inv K (s.tooBigA p m n).2 := by
  unfold Pt.tooBigA; split
  · exact h
  · rename_i hl; unfold Pt.late at hl; exact (h.at_ (n := n) (by omega) (by omega)).tooBig
theorem Inv.gotA {K m n : Int} {s : Pt} (h : Inv K s) : Inv K (s.gotA m n).2 := by
  unfold Pt.gotA; split
  · exact h
  · rename_i hl; unfold Pt.late at hl; exact (h.at_ (n := n) (by omega) (by omega)).got
theorem Inv.lostA {K m n : Int} {s : Pt} (h : Inv K s) : Inv K (s.lostA m n).2 := by
  unfold Pt.lostA; split
  · exact h
  · rename_i hl; unfold Pt.late at hl; exact (h.at_ (n := n) (by omega) (by omega)).lost
end Go.Proofs.Ytmanojnhjhpokaa.PB
