/- A text of groups is read as the address whose groups they are: plain Lean, no program. -/
import Derived.Test.YtakdcndkpipfbaaDoorBj
import Derived.Test.YtakdcndkpipfbaaDoorBb
import Derived.Lib.IndexMore
namespace Go.Proofs.YtakdcndkpipfbaaDoor.Ad
set_option linter.unusedVariables false
set_option linter.unusedSimpArgs false
/-- Each colon stands between two that are none, or in front. -/
def clean : List UInt8 → Bool
  | [] => true
  | [c] => c != 58
  | c :: d :: l => !(c == 58 && d == 58) && clean (d :: l)
theorem clean_cons {c : UInt8} (h : c ≠ 58) : ∀ l, clean (c :: l) = clean l
  | [] => by simp [clean, h]
  | d :: l => by simp [clean, h]
theorem clean_app : ∀ (p q : List UInt8), 58 ∉ p → clean (p ++ q) = clean q
  | [], q, _ => rfl
  | c :: p, q, h => by
    have hc : c ≠ 58 := fun e => h (by rw [e]; exact List.mem_cons_self)
    rw [List.cons_append, clean_cons hc]
    exact clean_app p q fun hm => h (List.mem_cons_of_mem _ hm)
theorem clean_colon {d : UInt8} {l : List UInt8} (h : d ≠ 58) : clean (58 :: d :: l) = clean (d :: l) := by simp [clean, h]
theorem index_clean : ∀ (u t : List UInt8), clean u = true → Lib.index (u ++ 58 :: 58 :: t) [58, 58] = u.length
  | [], t, _ => by simp [Lib.index]
  | [c], t, h => by
    have hc : c ≠ 58 := by simpa [clean] using h
    have hc' : ¬ (58 : UInt8) = c := fun e => hc e.symm
    simp [Lib.index, hc', hc]
  | c :: d :: l, t, h => by
    simp only [clean, Bool.and_eq_true] at h
    have ih := index_clean (d :: l) t h.2
    have hcd : ¬ ((58 : UInt8) = c ∧ (58 : UInt8) = d) := fun ⟨e1, e2⟩ => by rw [← e1, ← e2] at h; simp at h
    have hp : List.isPrefixOf [58, 58] (c :: (d :: l ++ 58 :: 58 :: t)) = false := by
      simp only [List.cons_append, List.isPrefixOf, Bool.and_true, Bool.and_eq_false_iff]
      by_cases h1 : (58 : UInt8) = c
      · exact .inr (beq_eq_false_iff_ne.2 fun e => hcd ⟨h1, e⟩)
      · exact .inl (beq_eq_false_iff_ne.2 h1)
    rw [List.cons_append, Lib.index, hp, ih]
    simp
    omega
theorem index_clean_none : ∀ (u : List UInt8), clean u = true → Lib.index u [58, 58] = -1
  | [], _ => rfl
  | [c], h => by simp [Lib.index, List.isPrefixOf]
  | c :: d :: l, h => by
    simp only [clean, Bool.and_eq_true] at h
    have ih := index_clean_none (d :: l) h.2
    have hcd : ¬ ((58 : UInt8) = c ∧ (58 : UInt8) = d) := fun ⟨e1, e2⟩ => by rw [← e1, ← e2] at h; simp at h
    have hp : List.isPrefixOf [58, 58] (c :: d :: l) = false := by
      simp only [List.isPrefixOf, Bool.and_true, Bool.and_eq_false_iff]
      by_cases h1 : (58 : UInt8) = c
      · exact .inr (beq_eq_false_iff_ne.2 fun e => hcd ⟨h1, e⟩)
      · exact .inl (beq_eq_false_iff_ne.2 h1)
    rw [Lib.index, hp, ih]
    rfl
theorem cut_clean {u t : List UInt8} (h : clean u = true) : Lib.cut (u ++ 58 :: 58 :: t) [58, 58] = (u, t, true) := by
  unfold Lib.cut
  rw [index_clean u t h, if_pos (by omega)]
  simp
theorem cut_no {u : List UInt8} (h : clean u = true) : Lib.cut u [58, 58] = (u, [], false) := by
  unfold Lib.cut
  rw [index_clean_none u h, if_neg (by decide)]
/-- A text of one group. -/
structure HexOk (p : List UInt8) (v : Nat) : Prop where
  ne : p ≠ []
  le : p.length ≤ 4
  no : 58 ∉ p
  val : foldD 16 p 0 = v
theorem HexOk.num {p : List UInt8} {v : Nat} (h : HexOk p v) : numV p 16 4 = v := by
  unfold numV
  rw [if_neg (fun h0 => h.ne (List.eq_nil_of_length_eq_zero h0)), if_neg (by have := h.le; omega), h.val]
theorem join_two (p q : List UInt8) (X : List (List UInt8)) : Lib.join (p :: q :: X) [58] = p ++ 58 :: Lib.join (q :: X) [58] := by
  rw [Lib.join_cons, Lib.join_cons]; simp [Lib.joinTail]
/-- Texts of groups and what they are worth. -/
inductive Hexes : List (List UInt8) → List Nat → Prop
  | nil : Hexes [] []
  | cons {p : List UInt8} {v : Nat} {X : List (List UInt8)} {vs : List Nat} : HexOk p v → Hexes X vs → Hexes (p :: X) (v :: vs)
theorem Hexes.len {X : List (List UInt8)} {vs : List Nat} (h : Hexes X vs) : X.length = vs.length := by
  induction h with
  | nil => rfl
  | cons _ _ ih => simp [ih]
theorem join_head {X : List (List UInt8)} {vs : List Nat} (h : Hexes X vs) (hX : X ≠ []) : ∃ c l, Lib.join X [58] = c :: l ∧ c ≠ 58 := by
  cases h with
  | nil => exact absurd rfl hX
  | @cons p v X vs hp h =>
    obtain ⟨c, l, rfl⟩ : ∃ c l, p = c :: l := by cases p with | nil => exact absurd rfl hp.ne | cons c l => exact ⟨c, l, rfl⟩
    refine ⟨c, l ++ Lib.joinTail [58] X, by rw [Lib.join_cons]; rfl, fun e => hp.no (by rw [e]; exact List.mem_cons_self)⟩
theorem join_clean {X : List (List UInt8)} {vs : List Nat} (h : Hexes X vs) : clean (Lib.join X [58]) = true := by
  induction h with
  | nil => rfl
  | @cons p v X vs hp h ih =>
    cases X with
    | nil => rw [Lib.join_one]; have := clean_app p [] hp.no; simpa [clean] using this
    | cons q X =>
      rw [join_two, clean_app _ _ hp.no]
      obtain ⟨c, l, e, hc⟩ := join_head h (by simp)
      rw [e] at ih ⊢
      rw [clean_colon hc]; exact ih
theorem join_cuts {X : List (List UInt8)} {vs : List Nat} (h : Hexes X vs) (hX : X ≠ []) : cuts 58 (Lib.join X [58]) = X := by
  induction h with
  | nil => exact absurd rfl hX
  | @cons p v X vs hp h ih =>
    cases X with
    | nil => rw [Lib.join_one]; exact cuts_none 58 p hp.no
    | cons q X => rw [join_two, cuts_at 58 _ _ hp.no, ih (by simp)]
theorem nums_hexes {X : List (List UInt8)} {vs : List Nat} (h : Hexes X vs) : nums X = some (vs.map fun v : Nat => (v : Int)) := by
  induction h with
  | nil => rfl
  | @cons p v X vs hp h ih =>
    unfold nums
    rw [hp.num, if_neg (by omega), ih]; rfl
theorem groups_hexes {X : List (List UInt8)} {vs : List Nat} (h : Hexes X vs) : groupsV (Lib.join X [58]) = some (vs.map fun v : Nat => (v : Int)) := by
  unfold groupsV
  by_cases hX : X = []
  · subst hX; cases h; rfl
  · obtain ⟨c, l, e, _⟩ := join_head h hX
    rw [if_neg (by rw [e]; simp), join_cuts h hX, nums_hexes h]
theorem contains_colon (u t : List UInt8) : (u ++ 58 :: t).contains 58 = true := by simp
/-- With a gap. -/
theorem read_gap {X Y : List (List UInt8)} {xs ys : List Nat} (hx : Hexes X xs) (hy : Hexes Y ys) (h : xs.length + ys.length ≤ 7) :
    readV (Lib.join X [58] ++ [58, 58] ++ Lib.join Y [58]) = some (ofGroups (fill (xs.map fun v : Nat => (v : Int)) (ys.map fun v : Nat => (v : Int)))) := by
  have e : Lib.join X [58] ++ [58, 58] ++ Lib.join Y [58] = Lib.join X [58] ++ 58 :: 58 :: Lib.join Y [58] := by simp
  rw [e]
  unfold readV
  rw [if_pos (contains_colon _ _)]
  unfold read6
  rw [cut_clean (join_clean hx)]
  simp only [groups_hexes hx, groups_hexes hy]
  rw [if_pos trivial, if_pos (by simpa using h)]
/-- Without one. -/
theorem read_whole {X : List (List UInt8)} {xs : List Nat} (hx : Hexes X xs) (h : xs.length = 8) : readV (Lib.join X [58]) = some (ofGroups (xs.map fun v : Nat => (v : Int))) := by
  have hc : (Lib.join X [58]).contains 58 = true := by
    have hl := hx.len
    match X, hl with
    | [], hl => simp at hl; omega
    | [p], hl => simp at hl; omega
    | p :: q :: X, hl => rw [join_two]; exact contains_colon _ _
  unfold readV
  rw [if_pos hc]
  unfold read6
  rw [cut_no (join_clean hx)]
  have h0 : groupsV [] = some [] := rfl
  simp only [groups_hexes hx, h0]
  rw [if_neg (by decide), if_pos (by simpa using h)]
  congr 2
  unfold fill
  simp [h]
end Go.Proofs.YtakdcndkpipfbaaDoor.Ad
