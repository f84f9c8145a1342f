/- Contract of the statements' own call of a path (does), whatever the call. Conditions: the path lies in one block that is known whole, the invariant holds, fewer than 2^50 numbers were given. -/
import Derived.Test.YtmanojnhjhpokaaPQ
namespace Go.Proofs.Ytmanojnhjhpokaa.PB
set_option linter.unusedVariables false
set_option linter.unusedSimpArgs false
open Go.RowKit
theorem Inv.after {K : Int} {s : Pt} (h : Inv K s) (o : Op) : Inv (K + 1) (s.after o) := by
  unfold Pt.after
  split
  · exact h.nextA
  split
  · exact h.ackedA.mono (by omega)
  split
  · exact h.tooBigA.mono (by omega)
  split
  · exact h.gotA.mono (by omega)
  split
  · exact h.lostA.mono (by omega)
  · exact h.mono (by omega)
theorem does_any (K : Int) (s : Pt) (g : Nat) (o : Op) (w : World) (h : Is w g s) (hi : Inv K s) (hK : K + 1 ≤ 1125899906842624) :
    Calls Try.prog 12 #[.pointer (some ⟨g, 0, none⟩), o.val] w fun e w' => e = .returned (s.says o).val ∧ Put w w' g 66 (s.after o).cells := by
  obtain ⟨k, ⟨c1, c2, c3, c4, c5, c6, c7⟩, n, z, t⟩ := o
  by_cases k2 : k = 2
  · exact does_2 K s g k n z t c1 c2 c3 c4 c5 c6 c7 k2 w h hi hK
  by_cases k3 : k = 3
  · exact does_3 K s g k n z t c1 c2 c3 c4 c5 c6 c7 k2 k3 w h hi hK
  by_cases k4 : k = 4
  · exact does_4 K s g k n z t c1 c2 c3 c4 c5 c6 c7 k2 k3 k4 w h hi hK
  by_cases k5 : k = 5
  · exact does_5 K s g k n z t c1 c2 c3 c4 c5 c6 c7 k2 k3 k4 k5 w h hi hK
  by_cases k6 : k = 6
  · exact does_6 K s g k n z t c1 c2 c3 c4 c5 c6 c7 k2 k3 k4 k5 k6 w h hi hK
  exact does_0 K s g k n z t c1 c2 c3 c4 c5 c6 c7 k2 k3 k4 k5 k6 w h hi hK
end Go.Proofs.Ytmanojnhjhpokaa.PB
