/- Contracts of the reference's digit, number, has, pieces. Conditions: a text is shorter than 2^32. -/
import Derived.Test.YtpaplobjmmpliaaGreatDoorAp
import Derived.Test.YtpaplobjmmpliaaGreatDoorAo
import Derived.Laws.AppendOwn
namespace Go.Proofs.YtpaplobjmmpliaaGreatDoor.Ad
set_option linter.unusedVariables false
set_option linter.unusedSimpArgs false
open Go.RowKit W
theorem drop_byte (s : ByteArray) (k : Nat) (h : k < s.size) : s.data.toList.drop k = s[k] :: s.data.toList.drop (k + 1) := by
  rw [List.drop_eq_getElem_cons (by simpa using h)]; rfl
theorem byte_toList (s : ByteArray) (k : Nat) (h : k < s.size) : s.data.toList.getD k 0 = s[k] := by
  rw [List.getD_eq_getElem?_getD, List.getElem?_eq_getElem (by simpa using h)]; rfl
end Go.Proofs.YtpaplobjmmpliaaGreatDoor.Ad
