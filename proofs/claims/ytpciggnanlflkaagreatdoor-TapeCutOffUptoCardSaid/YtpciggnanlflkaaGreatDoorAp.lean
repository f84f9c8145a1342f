/- Texts cut at a byte, digits and numbers: plain Lean, no program. -/
import Derived.Lib.Split
import Derived.Lib.SplitLaws
namespace Go.Proofs.YtpciggnanlflkaaGreatDoor.Ad
set_option linter.unusedVariables false
set_option linter.unusedSimpArgs false
/-- l cut at each byte c. -/
def cuts (c : UInt8) : List UInt8 → List (List UInt8)
  | [] => [[]]
  | x :: l => if x = c then [] :: cuts c l else match cuts c l with
    | [] => [[x]]
    | p :: r => (x :: p) :: r
theorem cuts_ne (c : UInt8) : ∀ l, cuts c l ≠ []
  | [] => by simp [cuts]
  | x :: l => by
    unfold cuts
    split
    · simp
    · split <;> simp
theorem cuts_none (c : UInt8) : ∀ l, c ∉ l → cuts c l = [l]
  | [], _ => rfl
  | x :: l, h => by
    have h1 : x ≠ c := fun e => h (by rw [e]; exact List.mem_cons_self)
    have h2 := cuts_none c l fun hm => h (List.mem_cons_of_mem _ hm)
    unfold cuts
    rw [if_neg h1, h2]
theorem cuts_at (c : UInt8) : ∀ l r, c ∉ l → cuts c (l ++ c :: r) = l :: cuts c r
  | [], r, _ => by rw [List.nil_append, cuts, if_pos rfl]
  | x :: l, r, h => by
    have h1 : x ≠ c := fun e => h (by rw [e]; exact List.mem_cons_self)
    have h2 := cuts_at c l r fun hm => h (List.mem_cons_of_mem _ hm)
    rw [List.cons_append, cuts, if_neg h1, h2]
theorem cuts_len (c : UInt8) : ∀ l, (cuts c l).length = l.count c + 1
  | [] => rfl
  | x :: l => by
    have ih := cuts_len c l
    unfold cuts
    by_cases h : x = c
    · rw [if_pos h, List.length_cons, ih, h, List.count_cons_self]
    · rw [if_neg h, List.count_cons_of_ne h]
      cases e : cuts c l with
      | nil => exact absurd e (cuts_ne c l)
      | cons p r => rw [e] at ih; exact ih
theorem cuts_le (c : UInt8) (l : List UInt8) : (cuts c l).length ≤ l.length + 1 := by
  rw [cuts_len]; have := List.count_le_length (a := c) (l := l); omega
/-- Each piece stands in the text. -/
theorem cuts_short (c : UInt8) : ∀ l p, p ∈ cuts c l → p.length ≤ l.length
  | [], p, h => by simp [cuts] at h; subst h; simp
  | x :: l, p, h => by
    unfold cuts at h
    by_cases e : x = c
    · rw [if_pos e] at h
      rcases List.mem_cons.1 h with rfl | h
      · simp
      · have := cuts_short c l p h; simp; omega
    · rw [if_neg e] at h
      cases e2 : cuts c l with
      | nil => exact absurd e2 (cuts_ne c l)
      | cons q r =>
        rw [e2] at h
        rcases List.mem_cons.1 h with rfl | h
        · have := cuts_short c l q (by rw [e2]; exact List.mem_cons_self); simp; omega
        · have := cuts_short c l p (by rw [e2]; exact List.mem_cons_of_mem _ h); simp; omega
theorem index_none (c : UInt8) : ∀ l : List UInt8, c ∉ l → Lib.index l [c] = -1
  | [], _ => rfl
  | x :: l, h => by
    have h1 : x ≠ c := fun e => h (by rw [e]; exact List.mem_cons_self)
    have h2 := index_none c l fun hm => h (List.mem_cons_of_mem _ hm)
    unfold Lib.index
    have : [c].isPrefixOf (x :: l) = false := by simp [List.isPrefixOf, Ne.symm h1]
    rw [this, h2]; rfl
/-- Go's Split at one byte. -/
theorem splitK_cuts (c : UInt8) : ∀ (l : List UInt8) (k : Nat), l.count c ≤ k → Lib.splitK [c] 0 k l = cuts c l
  | [], 0, _ => rfl
  | [], k + 1, _ => rfl
  | x :: l, k, h => by
    by_cases e : x = c
    · subst e
      rw [List.count_cons_self] at h
      obtain ⟨k, rfl⟩ : ∃ m, k = m + 1 := ⟨k - 1, by omega⟩
      have hi : Lib.index (x :: l) [x] = 0 := by simp [Lib.index, List.isPrefixOf]
      rw [cuts, if_pos rfl, Lib.splitK, hi]
      simp only [Int.toNat_zero, Nat.zero_add, List.take_zero]
      rw [if_neg (by decide), show (x :: l).drop [x].length = l from rfl, splitK_cuts x l k (by omega)]
    · rw [List.count_cons_of_ne e] at h
      have ih := splitK_cuts c l k h
      have hp : [c].isPrefixOf (x :: l) = false := by simp [List.isPrefixOf, Ne.symm e]
      rw [cuts, if_neg e, ← ih]
      cases k with
      | zero => rfl
      | succ k =>
        rw [Lib.splitK, Lib.splitK, Lib.index, hp]
        by_cases hi : Lib.index l [c] = -1
        · rw [hi]; rfl
        · have hge := Lib.index_ge l [c]
          have h0 : 0 ≤ Lib.index l [c] := by omega
          obtain ⟨n, hn⟩ := Int.eq_ofNat_of_zero_le h0
          rw [hn]
          have b1 : ((n : Int) == -1) = false := beq_eq_false_iff_ne.2 (by omega)
          have b2 : ((n : Int) + 1 == -1) = false := beq_eq_false_iff_ne.2 (by omega)
          simp only [b1, b2, Bool.false_eq_true, if_false]
          rw [show ((n : Int) + 1).toNat = n + 1 by omega, show (n : Int).toNat = n by omega]
          rfl
def cutsB (c : UInt8) (s : ByteArray) : List ByteArray := (cuts c s.data.toList).map fun l => ⟨l.toArray⟩
theorem cutsB_len (c : UInt8) (s : ByteArray) : (cutsB c s).length = (cuts c s.data.toList).length := by simp [cutsB]
theorem splitB_cutsB (c : UInt8) (s : ByteArray) : Lib.splitB ⟨#[c]⟩ 0 (Lib.countB s ⟨#[c]⟩) s = cutsB c s := by
  have h := Lib.splitB_data ⟨#[c]⟩ 0 (Lib.countB s ⟨#[c]⟩) s
  have hc : Lib.countB s ⟨#[c]⟩ = s.data.toList.count c := by unfold Lib.countB; exact Lib.count_one c _
  rw [show (ByteArray.mk #[c]).data.toList = [c] from rfl, splitK_cuts c _ _ (by rw [hc]; exact Nat.le_refl _)] at h
  unfold cutsB
  rw [← h, List.map_map]
  have : ((fun l : List UInt8 => (⟨l.toArray⟩ : ByteArray)) ∘ fun x : ByteArray => x.data.toList) = id := by
    funext x; simp
  rw [this, List.map_id]
theorem countB_cutsB (c : UInt8) (s : ByteArray) : Lib.countB s ⟨#[c]⟩ + 1 = (cutsB c s).length := by
  have hc : Lib.countB s ⟨#[c]⟩ = s.data.toList.count c := by unfold Lib.countB; exact Lib.count_one c _
  rw [hc, cutsB_len, cuts_len]
/-- A digit's number; 99: none. -/
def digitI (n : Int) : Int :=
  if 48 ≤ n then (if n ≤ 57 then n - 48 else if 97 ≤ n then (if n ≤ 102 then n - 97 + 10 else if 65 ≤ n then (if n ≤ 70 then n - 65 + 10 else 99) else 99) else if 65 ≤ n then (if n ≤ 70 then n - 65 + 10 else 99) else 99) else 99
def digitV (c : UInt8) : Int := digitI c.toNat
theorem digitV_in (c : UInt8) : 0 ≤ digitV c ∧ digitV c ≤ 99 := by
  have := c.toNat_lt
  unfold digitV digitI
  repeat' split
  all_goals omega
/-- The number that digits to a base make behind acc; -1: there is one that is none. -/
def foldD (base : Int) : List UInt8 → Int → Int
  | [], acc => acc
  | c :: l, acc => if base ≤ digitV c then -1 else foldD base l (acc * base + digitV c)
def numV (l : List UInt8) (base most : Int) : Int := if l.length = 0 then -1 else if most < l.length then -1 else foldD base l 0
end Go.Proofs.YtpciggnanlflkaaGreatDoor.Ad
