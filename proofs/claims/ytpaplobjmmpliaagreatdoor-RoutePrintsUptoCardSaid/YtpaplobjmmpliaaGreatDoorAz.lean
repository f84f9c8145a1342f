/- Contract of the reference's parse6. Conditions: a text is shorter than 2^32. -/
import Derived.Test.YtpaplobjmmpliaaGreatDoorAv
import Derived.Test.YtpaplobjmmpliaaGreatDoorAy
namespace Go.Proofs.YtpaplobjmmpliaaGreatDoor.Ad
set_option linter.unusedVariables false
set_option linter.unusedSimpArgs false
open Go.RowKit W
theorem ofGroups_ok (g : List Int) : (ofGroups g).ok := part_ok _ _ _
/-- No place before k stands for what is left out. -/
def NoGap (l : List UInt8) (k : Nat) : Prop := ∀ i x y, i < k → Lib.occAt l dd i = true → groupsV (l.take i) = some x → groupsV (l.drop (i + 2)) = some y → ¬ x.length + y.length ≤ 7
theorem NoGap.step {l : List UInt8} {k : Nat} (h : NoGap l k) (hk : ∀ x y, Lib.occAt l dd k = true → groupsV (l.take k) = some x → groupsV (l.drop (k + 2)) = some y → ¬ x.length + y.length ≤ 7) : NoGap l (k + 1) := by
  intro i x y hi
  rcases Nat.lt_or_ge i k with h1 | h1
  · exact h i x y h1
  · obtain rfl : i = k := by omega
    exact hk x y
theorem read6_no {l : List UInt8} {k : Nat} (h : NoGap l k) (hk : l.length < k + 2) (h8 : ∀ g, groupsV l = some g → g.length ≠ 8) : read6 l = none := by
  refine read6_none h8 fun i x y hi ho => ?_
  have := Lib.occAt_room ho
  simp [dd] at this
  exact h i x y (by omega) ho
theorem ext_take (s : ByteArray) (k : Nat) : (s.extract 0 k).data.toList = s.data.toList.take k := by rw [extract_toList]; simp
theorem ext_drop (s : ByteArray) (k : Nat) : (s.extract k s.size).data.toList = s.data.toList.drop k := by
  rw [extract_toList, List.take_of_length_le (by simp)]
theorem ext_occ (s : ByteArray) (k : Nat) (hk : k + 2 ≤ s.size) : ((s.extract k (k + 2)).toList == [58, 58]) = Lib.occAt s.data.toList dd k := by
  rw [Lib.occAt_iff_take _ _ _ (by simpa [dd] using hk), ByteArray.toList_eq, extract_toList, show k + 2 - k = 2 by omega]; rfl
theorem fill_step (x y : List Int) (j : Nat) (h : x.length + y.length + j = 8) : x ++ List.replicate j 0 ++ y = fill x y := by
  unfold fill; rw [show 8 - (x.length + y.length) = j by omega]
theorem fill_in {x y : List Int} (hx : ∀ n ∈ x, 0 ≤ n ∧ n ≤ 65535) (hy : ∀ n ∈ y, 0 ≤ n ∧ n ≤ 65535) : ∀ n ∈ fill x y, 0 ≤ n ∧ n ≤ 65535 := by
  intro n hn
  unfold fill at hn
  rcases List.mem_append.1 hn with hn | hn
  · rcases List.mem_append.1 hn with hn | hn
    · exact hx n hn
    · have := List.eq_of_mem_replicate hn; omega
  · exact hy n hn
theorem fill_len {x y : List Int} (h : x.length + y.length ≤ 7) : (fill x y).length = 8 := by unfold fill; simp; omega
theorem blk_grown {w w' : World} {g : Nat} {t : TypeId} {cs : Array Value} {row : Option Nat} (h : Blk w g t cs) (hg : w.grownBy w' row) (hr : ∀ k, row = some k → g ≠ k) : Blk w' g t cs := by
  have := hg.block g h.lt (fun e => hr g e.symm rfl)
  exact this.trans h
end Go.Proofs.YtpaplobjmmpliaaGreatDoor.Ad
