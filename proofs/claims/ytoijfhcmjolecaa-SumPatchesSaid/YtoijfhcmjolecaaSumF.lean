/- Patch comes to the plain arithmetic's number; Parts of pieces, of words exchanged, of a word changed. -/
import Derived.Test.YtoijfhcmjolecaaPAllx4
import Derived.Test.YtoijfhcmjolecaaSumE
namespace Go.Proofs.Ytoijfhcmjolecaa.SumE
set_option linter.unusedVariables false
set_option linter.unusedSimpArgs false
open Go.RowKit Go.Proofs.Ytoijfhcmjolecaa.PAll Go.Proofs.YtoijfhcmjolecaaW.PrintWords Go.Proofs.YtoijfhcmjolecaaW.PrintLast Go.Proofs.Ytoijfhcmjolecaa.SumT

theorem patch_any {s x y : Int} (hs : 0 ≤ s ∧ s ≤ 65535) (hx : 0 ≤ x ∧ x ≤ 65535) (hy : 0 ≤ y ∧ y ≤ 65535) : Ev (fun k => sum_Patch.f k s x y) (65535 - osum (65535 - s + (65535 - x) + y)) := by
  have h1 := osum_le (65535 - s + (65535 - x)) (by omega)
  have h2 := osum_le (osum (65535 - s + (65535 - x)) + y) (by omega)
  unfold sum_Patch.f
  rw [xor_max hs.1 hs.2, xor_max hx.1 hx.2, ← osum_add_l _ _ (by omega) (by omega), ← xor_max h2.1 h2.2]
  refine Ev.bind (f := fun k t => (sum_Add.f k t y).bind fun t232 => some (Go.bits .xor .u16 IntKind.u16.max t232)) (add_any (by omega) (by omega)) ?_
  exact Ev.bind (f := fun k t => some (Go.bits .xor .u16 IntKind.u16.max t)) (add_any h1 hy) (Ev.now _)

end Go.Proofs.Ytoijfhcmjolecaa.SumE
