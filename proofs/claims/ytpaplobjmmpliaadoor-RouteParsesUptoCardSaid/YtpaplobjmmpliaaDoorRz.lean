/- The reference's line: by the places of its first slash and blank; the same routes: plain Lean, no program. -/
import Derived.Test.YtpaplobjmmpliaaDoorRn
import Derived.Test.YtpaplobjmmpliaaDoorAy
namespace Go.Proofs.YtpaplobjmmpliaaDoor.Ad
set_option linter.unusedVariables false
set_option linter.unusedSimpArgs false
open Go.RowKit W
theorem cuts_mem (c x : UInt8) (hx : x ≠ c) : ∀ l, x ∈ l → ∃ p ∈ cuts c l, x ∈ p
  | [], h => by cases h
  | y :: l, h => by
    by_cases e : y = c
    · have hl : x ∈ l := by
        rcases List.mem_cons.1 h with h | h
        · exact absurd (h.trans e) hx
        · exact h
      obtain ⟨p, h1, h2⟩ := cuts_mem c x hx l hl
      exact ⟨p, by rw [cuts, if_pos e]; exact List.mem_cons_of_mem _ h1, h2⟩
    · rw [cuts, if_neg e]
      cases e2 : cuts c l with
      | nil => exact absurd e2 (cuts_ne c l)
      | cons q r =>
        rcases List.mem_cons.1 h with h | h
        · exact ⟨y :: q, List.mem_cons_self, by rw [h]; exact List.mem_cons_self⟩
        · obtain ⟨p, h1, h2⟩ := cuts_mem c x hx l h
          rw [e2] at h1
          rcases List.mem_cons.1 h1 with rfl | h1
          · exact ⟨y :: p, List.mem_cons_self, List.mem_cons_of_mem _ h2⟩
          · exact ⟨p, List.mem_cons_of_mem _ h1, h2⟩
theorem fold_no {base : Int} {x : UInt8} (hx : base ≤ digitV x) : ∀ (l : List UInt8) (acc : Int), x ∈ l → foldD base l acc = -1
  | [], acc, h => by cases h
  | y :: l, acc, h => by
    unfold foldD
    by_cases hy : base ≤ digitV y
    · rw [if_pos hy]
    · rw [if_neg hy]
      rcases List.mem_cons.1 h with h | h
      · rw [h] at hx; exact absurd hx hy
      · exact fold_no hx l _ h
theorem num_no {base most : Int} {x : UInt8} (hx : base ≤ digitV x) {p : List UInt8} (h : x ∈ p) : numV p base most = -1 := by
  unfold numV
  split
  · rfl
  · split
    · rfl
    · exact fold_no hx p 0 h
theorem groups_clean {l : List UInt8} {g : List Int} (h : groupsV l = some g) : (32 : UInt8) ∉ l := fun hm => by
  unfold groupsV at h
  split at h
  · rename_i h0; rw [h0] at hm; cases hm
  · obtain ⟨p, h1, h2⟩ := cuts_mem 58 32 (by decide) l hm
    rw [nums_bad (by rw [num_no (x := 32) (by decide) h2]; decide) _ h1] at h
    cases h
theorem cut_two {l : List UInt8} {x : UInt8} (hx : x ≠ 58) (h : x ∈ l) : x ∈ (Lib.cut l dd).1 ∨ x ∈ (Lib.cut l dd).2.1 := by
  by_cases hj : ∃ j, j ≤ l.length ∧ Lib.occAt l dd j = true
  · have hmin : ∃ i, i ≤ l.length ∧ Lib.occAt l dd i = true ∧ ∀ j, j < i → Lib.occAt l dd j = false := by
      obtain ⟨j, hjl, hjo⟩ := hj
      induction j using Nat.strongRecOn with
      | _ j ih =>
        by_cases hk : ∃ k, k < j ∧ Lib.occAt l dd k = true
        · obtain ⟨k, h1, h2⟩ := hk
          exact ih k h1 (by omega) h2
        · exact ⟨j, hjl, hjo, fun k hk2 => by
            cases h3 : Lib.occAt l dd k with
            | false => rfl
            | true => exact absurd ⟨k, hk2, h3⟩ hk⟩
    obtain ⟨i, h1, h2, h3⟩ := hmin
    rw [cut_at h1 h2 h3]
    obtain ⟨R, h4, h5⟩ := occ_split h2
    rw [h4] at h
    rcases List.mem_append.1 h with h | h
    · exact .inl h
    · rcases List.mem_cons.1 h with h | h
      · exact absurd h hx
      · rcases List.mem_cons.1 h with h | h
        · exact absurd h hx
        · exact .inr (by show x ∈ l.drop (i + 2); rw [← h5]; exact h)
  · rw [cut_none fun j hjl => by
      cases h3 : Lib.occAt l dd j with
      | false => rfl
      | true => exact absurd ⟨j, hjl, h3⟩ hj]
    exact .inl h
theorem read6_clean {l : List UInt8} {a : Addr} (h : read6 l = some a) : (32 : UInt8) ∉ l := fun hm => by
  unfold read6 at h
  split at h
  · rename_i x y h1 h2
    rcases cut_two (by decide) hm with h3 | h3
    · exact groups_clean h1 h3
    · exact groups_clean h2 h3
  · cases h
theorem decOk_num {p : List UInt8} (h : decOk p = true) : 0 ≤ numV p 10 3 := by
  unfold decOk at h
  simp only [Bool.and_eq_true, decide_eq_true_eq] at h
  exact h.1.1
theorem read4_clean {l : List UInt8} {a : Addr} (h : read4 l = some a) : (32 : UInt8) ∉ l := fun hm => by
  unfold read4 at h
  split at h
  · split at h
    · rename_i h1
      obtain ⟨p, h2, h3⟩ := cuts_mem 46 32 (by decide) l hm
      have h4 := decOk_num (List.all_eq_true.1 h1 p h2)
      rw [num_no (x := 32) (by decide) h3] at h4
      exact absurd h4 (by decide)
    · cases h
  · cases h
/-- No blank. -/
theorem read_clean {l : List UInt8} {a : Addr} (h : readV l = some a) : (32 : UInt8) ∉ l := by
  unfold readV at h
  split at h
  · exact read6_clean h
  · exact read4_clean h
theorem index_at {c : UInt8} : ∀ {A R : List UInt8}, c ∉ A → Lib.index (A ++ c :: R) [c] = A.length := by
  intro A
  induction A with
  | nil => intro R _; simp [Lib.index]
  | cons x A ih =>
    intro R h
    have h1 : x ≠ c := fun e => h (by rw [e]; exact List.mem_cons_self)
    have h2 := ih (R := R) fun hm => h (List.mem_cons_of_mem _ hm)
    have hp : [c].isPrefixOf (x :: (A ++ c :: R)) = false := by simp [List.isPrefixOf, Ne.symm h1]
    rw [List.cons_append, Lib.index, hp, h2]
    simp
theorem cut1_at {c : UInt8} {A R : List UInt8} (h : c ∉ A) : Lib.cut (A ++ c :: R) [c] = (A, R, true) := by
  unfold Lib.cut
  rw [index_at h, if_pos (by omega)]
  simp
theorem cut1_none {c : UInt8} {l : List UInt8} (h : c ∉ l) : Lib.cut l [c] = (l, [], false) := by
  unfold Lib.cut
  rw [index_none c l h, if_neg (by decide)]
/-- The place of the first byte c; -1: there is none. -/
def placeV (l : List UInt8) (c : UInt8) : Int := if c ∈ l then (l.idxOf c : Nat) else -1
theorem split_at {c : UInt8} {l : List UInt8} (h : c ∈ l) : ∃ A R, l = A ++ c :: R ∧ c ∉ A := List.eq_append_cons_of_mem h
theorem idx_at {c : UInt8} : ∀ {A R : List UInt8}, c ∉ A → (A ++ c :: R).idxOf c = A.length := by
  intro A
  induction A with
  | nil => intro R _; simp
  | cons x A ih =>
    intro R h
    have h1 : x ≠ c := fun e => h (by rw [e]; exact List.mem_cons_self)
    rw [List.cons_append, List.idxOf_cons, beq_eq_false_iff_ne.2 h1, ih fun hm => h (List.mem_cons_of_mem _ hm)]
    simp
theorem place_at {c : UInt8} {A R : List UInt8} (h : c ∉ A) : placeV (A ++ c :: R) c = A.length := by
  unfold placeV; rw [if_pos (by simp), idx_at h]
theorem place_none {c : UInt8} {l : List UInt8} (h : c ∉ l) : placeV l c = -1 := if_neg h
def numR (l : List UInt8) : Int := (numQ l).getD (-1)
def lineR (l : List UInt8) : Rt × Bool :=
  if placeV l 47 < 0 ∨ placeV l 32 < placeV l 47 then (zeroRt, false)
  else (⟨ansA (readV (l.take (placeV l 47).toNat)), numR ((l.take (placeV l 32).toNat).drop ((placeV l 47).toNat + 1)), numR (l.drop ((placeV l 32).toNat + 1))⟩,
    (ansE (readV (l.take (placeV l 47).toNat)) == 0) && decide (0 ≤ numR ((l.take (placeV l 32).toNat).drop ((placeV l 47).toNat + 1))) && decide (0 ≤ numR (l.drop ((placeV l 32).toNat + 1))))
theorem numR_some (l : List UInt8) : decide (0 ≤ numR l) = (numQ l).isSome := by
  unfold numR
  cases h : numQ l with
  | none => rfl
  | some n => have := (numQ_in h).1; simpa using this
theorem numR_ans {l : List UInt8} (h : (numQ l).isSome = true) : numR l = ansN (numQ l) := by
  unfold numR ansN
  cases h2 : numQ l with
  | none => rw [h2] at h; cases h
  | some n => rfl
theorem line_same (l : List UInt8) : (lineR l).2 = (lineV l).2 ∧ ((lineV l).2 = true → (lineR l).1 = (lineV l).1) := by
  by_cases h1 : (47 : UInt8) ∈ l
  · obtain ⟨A, R, rfl, hA⟩ := split_at h1
    have c1 := cut1_at (R := R) hA
    have p1 := place_at (R := R) hA
    by_cases h2 : (32 : UInt8) ∈ A
    · have hr : readV A = none := by
        cases h : readV A with
        | none => rfl
        | some a => exact absurd h2 (read_clean h)
      have hV : (lineV (A ++ 47 :: R)).2 = false := by
        unfold lineV
        rw [c1]
        simp [hr, ansE]
      obtain ⟨B, C, hBC, hB⟩ := split_at h2
      have p2 : placeV (A ++ 47 :: R) 32 = B.length := by
        rw [hBC, List.append_assoc, List.cons_append]; exact place_at hB
      have hl : B.length < A.length := by rw [hBC]; simp
      have hR : lineR (A ++ 47 :: R) = (zeroRt, false) := by
        unfold lineR
        rw [if_pos (by rw [p1, p2]; omega)]
      rw [hR, hV]
      exact ⟨rfl, fun h => by cases h⟩
    · by_cases h3 : (32 : UInt8) ∈ R
      · obtain ⟨B, C, rfl, hB⟩ := split_at h3
        have c2 := cut1_at (R := C) hB
        have e : A ++ 47 :: (B ++ 32 :: C) = (A ++ 47 :: B) ++ 32 :: C := by simp
        have p2 : placeV (A ++ 47 :: (B ++ 32 :: C)) 32 = ((A.length + 1 + B.length : Nat) : Int) := by
          rw [e, place_at (by simp only [List.mem_append, List.mem_cons, not_or]; exact ⟨h2, by decide, hB⟩)]
          simp; omega
        have hR : lineR (A ++ 47 :: (B ++ 32 :: C)) = (⟨ansA (readV A), numR B, numR C⟩, (ansE (readV A) == 0) && decide (0 ≤ numR B) && decide (0 ≤ numR C)) := by
          unfold lineR
          rw [if_neg (by rw [p1, p2]; omega), p1, p2, Int.toNat_natCast, Int.toNat_natCast]
          have t1 : (A ++ 47 :: (B ++ 32 :: C)).take A.length = A := List.take_left
          have t2 : (A ++ 47 :: (B ++ 32 :: C)).take (A.length + 1 + B.length) = A ++ 47 :: B := by
            rw [e]; exact List.take_left' (by simp; omega)
          have t3 : (A ++ 47 :: B).drop (A.length + 1) = B := by
            have : A ++ 47 :: B = (A ++ [47]) ++ B := by simp
            rw [this]; exact List.drop_left' (by simp)
          have t4 : (A ++ 47 :: (B ++ 32 :: C)).drop (A.length + 1 + B.length + 1) = C := by
            have : A ++ 47 :: (B ++ 32 :: C) = (A ++ 47 :: B ++ [32]) ++ C := by simp
            rw [this]; exact List.drop_left' (by simp; omega)
          rw [t1, t2, t3, t4]
        have hV : lineV (A ++ 47 :: (B ++ 32 :: C)) = (⟨ansA (readV A), ansN (numQ B), ansN (numQ C)⟩, true && true && (ansE (readV A) == 0) && (numQ B).isSome && (numQ C).isSome) := by
          unfold lineV
          rw [c1]
          simp only
          rw [c2]
        rw [hR, hV, numR_some, numR_some]
        refine ⟨by simp, fun h => ?_⟩
        simp only [Bool.and_eq_true] at h
        show (⟨_, numR B, numR C⟩ : Rt) = ⟨_, ansN (numQ B), ansN (numQ C)⟩
        rw [numR_ans h.1.2, numR_ans h.2]
      · have c2 := cut1_none h3
        have p2 : placeV (A ++ 47 :: R) 32 = -1 := place_none (by simp only [List.mem_append, List.mem_cons, not_or]; exact ⟨h2, by decide, h3⟩)
        have hR : lineR (A ++ 47 :: R) = (zeroRt, false) := by
          unfold lineR
          rw [if_pos (by rw [p1, p2]; omega)]
        have hV : (lineV (A ++ 47 :: R)).2 = false := by
          unfold lineV
          rw [c1]
          simp only
          rw [c2]
          simp
        rw [hR, hV]
        exact ⟨rfl, fun h => by cases h⟩
  · have c1 := cut1_none h1
    have hR : lineR l = (zeroRt, false) := by
      unfold lineR
      rw [if_pos (by rw [place_none h1]; omega)]
    have hV : (lineV l).2 = false := by
      unfold lineV
      rw [c1]
      simp
    rw [hR, hV]
    exact ⟨rfl, fun h => by cases h⟩
end Go.Proofs.YtpaplobjmmpliaaDoor.Ad
