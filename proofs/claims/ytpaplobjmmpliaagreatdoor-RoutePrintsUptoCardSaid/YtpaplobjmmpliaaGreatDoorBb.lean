/- Contract of the reference's Parse. Conditions: a text is shorter than 2^32. -/
import Derived.Test.YtpaplobjmmpliaaGreatDoorAz
namespace Go.Proofs.YtpaplobjmmpliaaGreatDoor.Ad
set_option linter.unusedVariables false
set_option linter.unusedSimpArgs false
open Go.RowKit W
theorem ans_ok (r : Option Addr) (h : ∀ a, r = some a → a.ok) : (ansA r).ok := by
  cases r with
  | none => exact zero_ok
  | some a => exact h a rfl
theorem read4_ok (l : List UInt8) : (ansA (read4 l)).ok := ans_ok _ fun a h => by
  unfold read4 at h
  split at h
  · split at h
    · injection h with h; subst h; exact part_ok _ _ _
    · cases h
  · cases h
theorem read6_ok (l : List UInt8) : (ansA (read6 l)).ok := ans_ok _ fun a h => by
  unfold read6 at h
  split at h
  · split at h
    · split at h
      · injection h with h; subst h; exact part_ok _ _ _
      · cases h
    · split at h
      · injection h with h; subst h; exact part_ok _ _ _
      · cases h
  · cases h
theorem readV_ok (l : List UInt8) : (ansA (readV l)).ok := by
  unfold readV; split
  · exact read6_ok l
  · exact read4_ok l
end Go.Proofs.YtpaplobjmmpliaaGreatDoor.Ad
