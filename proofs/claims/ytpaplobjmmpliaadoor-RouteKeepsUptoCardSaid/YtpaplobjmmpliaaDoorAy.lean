/- A text of version 6 has one place at most where groups are left out: plain Lean, no program. -/
import Derived.Test.YtpaplobjmmpliaaDoorAt
import Derived.Lib.IndexLaws
namespace Go.Proofs.YtpaplobjmmpliaaDoor.Ad
set_option linter.unusedVariables false
set_option linter.unusedSimpArgs false
theorem cuts_append (c : UInt8) : ∀ A R, cuts c (A ++ c :: R) = cuts c A ++ cuts c R
  | [], R => by
    show (if c = c then [] :: cuts c R else _) = [[]] ++ cuts c R
    rw [if_pos rfl]; rfl
  | x :: A, R => by
    have ih := cuts_append c A R
    rw [List.cons_append, cuts, cuts]
    by_cases h : x = c
    · rw [if_pos h, if_pos h, ih]; rfl
    · rw [if_neg h, if_neg h, ih]
      cases e : cuts c A with
      | nil => exact absurd e (cuts_ne c A)
      | cons p r => rfl
theorem nums_bad {p : List UInt8} (hp : numV p 16 4 < 0) : ∀ ps : List (List UInt8), p ∈ ps → nums ps = none
  | q :: ps, h => by
    unfold nums
    by_cases hq : numV q 16 4 < 0
    · rw [if_pos hq]
    · rw [if_neg hq]
      rcases List.mem_cons.1 h with rfl | h
      · exact absurd hp hq
      · rw [nums_bad hp ps h]; rfl
theorem num_empty : numV [] 16 4 < 0 := by decide
abbrev dd : List UInt8 := [58, 58]
theorem occ_split {l : List UInt8} {i : Nat} (h : Lib.occAt l dd i = true) : ∃ R, l = l.take i ++ 58 :: 58 :: R ∧ R = l.drop (i + 2) := by
  unfold Lib.occAt at h
  obtain ⟨t, ht⟩ := List.isPrefixOf_iff_prefix.1 h
  have h1 := List.take_append_drop i l
  rw [← ht] at h1
  refine ⟨t, h1.symm, ?_⟩
  rw [← List.drop_drop, ← ht]; rfl
theorem groups_occ {l : List UInt8} {i : Nat} (h : Lib.occAt l dd i = true) : groupsV l = none := by
  obtain ⟨R, hR, _⟩ := occ_split h
  have hl : l ≠ [] := by rw [hR]; simp
  unfold groupsV
  rw [if_neg hl, hR]
  refine nums_bad num_empty _ ?_
  rw [cuts_append]
  refine List.mem_append_right _ ?_
  rw [cuts, if_pos rfl]; exact List.mem_cons_self
theorem groups_end (A : List UInt8) : groupsV (A ++ [58]) = none := by
  unfold groupsV
  rw [if_neg (by simp)]
  refine nums_bad num_empty _ ?_
  rw [cuts_append]
  exact List.mem_append_right _ (by simp [cuts])
theorem no_occ {l : List UInt8} {g : List Int} (h : groupsV l = some g) (j : Nat) : Lib.occAt l dd j = false := by
  cases e : Lib.occAt l dd j with
  | false => rfl
  | true => rw [groups_occ e] at h; cases h
theorem cut_none {l : List UInt8} (h : ∀ j, j ≤ l.length → Lib.occAt l dd j = false) : Lib.cut l dd = (l, [], false) := by
  unfold Lib.cut
  rw [Lib.index_none h]; rfl
theorem cut_at {l : List UInt8} {i : Nat} (hi : i ≤ l.length) (h : Lib.occAt l dd i = true) (h2 : ∀ j, j < i → Lib.occAt l dd j = false) : Lib.cut l dd = (l.take i, l.drop (i + 2), true) := by
  unfold Lib.cut
  rw [Lib.index_first hi h h2, if_pos (by omega)]; rfl
theorem fill_full {g : List Int} (h : g.length = 8) : fill g [] = g := by unfold fill; simp [h]
/-- Eight groups and nothing left out. -/
theorem read6_full {l : List UInt8} {g : List Int} (h : groupsV l = some g) (h8 : g.length = 8) : read6 l = some (ofGroups g) := by
  unfold read6
  rw [cut_none fun j _ => no_occ h j]
  have h0 : groupsV [] = some [] := rfl
  rw [h, h0]
  simp only [Bool.false_eq_true, if_false, List.length_nil, Nat.add_zero]
  rw [if_pos h8, fill_full h8]
/-- A place where what is ahead and what is behind can be read. -/
theorem read6_gap {l : List UInt8} {x y : List Int} {i : Nat} (hi : i ≤ l.length) (ho : Lib.occAt l dd i = true) (hx : groupsV (l.take i) = some x) (hy : groupsV (l.drop (i + 2)) = some y) (h7 : x.length + y.length ≤ 7) : read6 l = some (ofGroups (fill x y)) := by
  have hno : ∀ j, j < i → Lib.occAt l dd j = false := fun j hj => by
    cases e : Lib.occAt l dd j with
    | false => rfl
    | true =>
      exfalso
      by_cases h2 : j + 2 ≤ i
      · -- it stands within what is ahead
        have : Lib.occAt (l.take i) dd j = true := by
          unfold Lib.occAt at e ⊢
          obtain ⟨t, ht⟩ := List.isPrefixOf_iff_prefix.1 e
          refine List.isPrefixOf_iff_prefix.2 ⟨t.take (i - j - 2), ?_⟩
          rw [List.drop_take, ← ht]
          obtain ⟨n, hn⟩ : ∃ n, i - j = n + 2 := ⟨i - j - 2, by omega⟩
          rw [hn]; simp [dd]
        rw [groups_occ this] at hx; cases hx
      · obtain rfl : i = j + 1 := by omega
        have : l.take (j + 1) = l.take j ++ [58] := by rw [List.take_add_one, Lib.occAt_head rfl e]; rfl
        rw [this, groups_end] at hx; cases hx
  unfold read6
  rw [cut_at hi ho hno, hx, hy]
  simp only [if_true]
  rw [if_pos h7]
/-- What can be read has one of the two forms. -/
theorem read6_none {l : List UInt8} (h1 : ∀ g, groupsV l = some g → g.length ≠ 8) (h2 : ∀ i x y, i ≤ l.length → Lib.occAt l dd i = true → groupsV (l.take i) = some x → groupsV (l.drop (i + 2)) = some y → ¬ x.length + y.length ≤ 7) : read6 l = none := by
  unfold read6
  rcases Lib.index_spec l dd with ⟨hi, hn⟩ | ⟨i, hi, hle, ho, hn⟩
  · rw [cut_none hn]
    have h0 : groupsV [] = some [] := rfl
    rw [h0]
    cases e : groupsV l with
    | none => rfl
    | some g =>
      simp only [Bool.false_eq_true, if_false, List.length_nil, Nat.add_zero]
      rw [if_neg (h1 g e)]
  · rw [cut_at hle ho hn]
    cases ex : groupsV (l.take i) with
    | none => rfl
    | some x =>
      cases ey : groupsV (l.drop (i + 2)) with
      | none => rfl
      | some y =>
        simp only [if_true]
        rw [if_neg (h2 i x y hle ho ex ey)]
end Go.Proofs.YtpaplobjmmpliaaDoor.Ad
