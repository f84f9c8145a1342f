/- What alive asks, in plain Lean: the fixed answers. -/
import Derived.Test.YtakdcndkpipfbaaDoorBo
namespace Go.Proofs.YtakdcndkpipfbaaDoor.Ad
set_option linter.unusedVariables false
set_option linter.unusedSimpArgs false
open Go.RowKit W
/-- An address of four bytes. -/
def ad4 (a b c d : UInt8) : Addr := ⟨4, [a, b, c, d, 0, 0, 0, 0, 0, 0, 0, 0, 0, 0, 0, 0]⟩
theorem ad4_ok (a b c d : UInt8) : (ad4 a b c d).ok := rfl
def ali1 : List UInt8 := [49, 57, 50, 46, 48, 46, 50, 46, 49, 50, 57]
def ali2 : List UInt8 := [50, 48, 48, 49, 58, 100, 98, 56, 58, 48, 58, 48, 58, 49, 58, 48, 58, 48, 58, 49]
def ali3 : List UInt8 := [49, 58, 58, 50, 58, 58, 51]
def adB : Addr := ⟨6, [32, 1, 13, 184, 0, 0, 0, 0, 0, 1, 0, 0, 0, 0, 0, 1]⟩
set_option maxRecDepth 100000 in
theorem ali1_read : readV ali1 = some (ad4 192 0 2 129) := by decide +kernel
set_option maxRecDepth 100000 in
theorem ali2_read : readV ali2 = some adB := by decide +kernel
set_option maxRecDepth 100000 in
theorem ali3_read : readV ali3 = none := by decide +kernel
theorem ali_mask : (ad4 192 0 2 129).mask 25 = ad4 192 0 2 128 ∧ (ad4 192 0 2 129).maskE 25 = 0 := by decide +kernel
theorem ali_valid : (ad4 192 0 2 129).valid = true := by decide +kernel
theorem ali_kind : (ad4 192 0 2 129).kind = 5 ∧ (ad4 127 1 1 1).kind = 2 := by decide +kernel
theorem ali_less : (ad4 192 0 2 129).less adB = true := by decide +kernel
theorem ali_within : (ad4 192 0 2 129).within (ad4 192 0 2 128) 25 = true ∧ (ad4 192 0 2 129).within (ad4 192 0 2 128) 33 = false := by decide +kernel
set_option maxRecDepth 100000 in
theorem ali_print : printV adB = [50, 48, 48, 49, 58, 100, 98, 56, 58, 58, 49, 58, 48, 58, 48, 58, 49] := by decide +kernel
end Go.Proofs.YtakdcndkpipfbaaDoor.Ad
