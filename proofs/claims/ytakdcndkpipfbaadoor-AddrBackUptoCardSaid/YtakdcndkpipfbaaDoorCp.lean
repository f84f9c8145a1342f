/- The text of groups with a gap that is chosen: plain Lean, no program. -/
import Derived.Test.YtakdcndkpipfbaaDoorCl
namespace Go.Proofs.YtakdcndkpipfbaaDoor.Ad
set_option linter.unusedVariables false
set_option linter.unusedSimpArgs false
theorem joinT_zero (T : Nat → List UInt8) (i : Nat) : joinT T i 0 = [] := rfl
theorem joinT_one (T : Nat → List UInt8) (i : Nat) : joinT T i 1 = T i := by unfold joinT; exact Lib.join_one _ _
theorem joinT_two (T : Nat → List UInt8) (i n : Nat) : joinT T i (n + 2) = T i ++ [58] ++ joinT T (i + 1) (n + 1) := by
  unfold joinT
  rw [List.range'_succ, List.range'_succ, List.map_cons, List.map_cons, join_two]
  simp
theorem joinT_succ (T : Nat → List UInt8) : ∀ (n i : Nat), 0 < n → joinT T i (n + 1) = joinT T i n ++ [58] ++ T (i + n)
  | 0, i, h => by omega
  | 1, i, _ => by rw [joinT_two, joinT_one, joinT_one]
  | n + 2, i, _ => by
    rw [joinT_two, joinT_succ T (n + 1) (i + 1) (by omega), joinT_two T i n, show i + 1 + (n + 1) = i + (n + 2) by omega]
    simp
theorem joinT_len {T : Nat → List UInt8} (h : ∀ k, (T k).length ≤ 4) (i : Nat) : ∀ n, (joinT T i n).length ≤ 5 * n
  | 0 => by simp [joinT_zero]
  | 1 => by rw [joinT_one]; have := h i; omega
  | n + 2 => by
    rw [joinT_succ _ _ _ (by omega)]
    have := joinT_len h i (n + 1)
    have := h (i + (n + 1))
    simp; omega
/-- The text of the groups below the k-th; the L groups from the f-th on are left out. -/
def longT (T : Nat → List UInt8) (f L k : Nat) : List UInt8 := if L = 0 ∨ k ≤ f then joinT T 0 k else joinT T 0 f ++ [58, 58] ++ joinT T (f + L) (k - (f + L))
theorem longT_zero (T : Nat → List UInt8) (f L : Nat) : longT T f L 0 = [] := by unfold longT; rw [if_pos (by omega)]; rfl
theorem longT_jump (T : Nat → List UInt8) (f : Nat) {L : Nat} (h : 0 < L) : longT T f L (f + L) = longT T f L f ++ [58, 58] := by
  unfold longT
  rw [if_neg (by omega), if_pos (by omega), Nat.sub_self, joinT_zero, List.append_nil]
/-- Is a colon laid ahead of the k-th group. -/
def col (f L k : Nat) : Prop := 0 < k ∧ ¬ (0 < L ∧ k = f + L)
instance (f L k : Nat) : Decidable (col f L k) := by unfold col; infer_instance
theorem longT_colon (T : Nat → List UInt8) {f L k : Nat} (h : col f L k) (hk : L = 0 ∨ k < f ∨ f + L ≤ k) : longT T f L (k + 1) = longT T f L k ++ [58] ++ T k := by
  obtain ⟨h0, h1⟩ := h
  unfold longT
  by_cases hc : L = 0 ∨ k < f
  · rw [if_pos (by omega), if_pos (by omega), joinT_succ _ _ _ h0, Nat.zero_add]
  · rw [if_neg (by omega), if_neg (by omega), show k + 1 - (f + L) = k - (f + L) + 1 by omega, joinT_succ _ _ _ (by omega), show f + L + (k - (f + L)) = k by omega]
    simp
theorem longT_plain (T : Nat → List UInt8) {f L k : Nat} (h : ¬ col f L k) (hk : L = 0 ∨ k < f ∨ f + L ≤ k) : longT T f L (k + 1) = longT T f L k ++ T k := by
  unfold col at h
  unfold longT
  by_cases hc : L = 0 ∨ k < f
  · obtain rfl : k = 0 := by omega
    rw [if_pos (by omega), if_pos (by omega), joinT_one, joinT_zero]; rfl
  · obtain rfl : k = f + L := by omega
    rw [if_neg (by omega), if_neg (by omega), show f + L + 1 - (f + L) = 1 by omega, Nat.sub_self, joinT_one, joinT_zero]
    simp
theorem longT_len {T : Nat → List UInt8} (h : ∀ k, (T k).length ≤ 4) {f L k : Nat} (hk : L = 0 ∨ k ≤ f ∨ f + L ≤ k) : (longT T f L k).length ≤ 5 * k + 2 := by
  unfold longT
  split
  · have := joinT_len h 0 k; omega
  · have h1 := joinT_len h 0 f
    have h2 := joinT_len h (f + L) (k - (f + L))
    simp only [List.length_append, List.length_cons, List.length_nil]
    omega
/-- It is read as the address. -/
theorem read_longT {b : List UInt8} (hb : b.length = 16) {T : Nat → List UInt8} (h : ∀ k, HexOk (T k) (grp b k)) {f m : Nat} (hf : f < 8) : readV (longT T f (min (runV b f) m) 8) = some ⟨6, b⟩ := by
  have hr := runV_le8 b f
  unfold longT
  by_cases h0 : min (runV b f) m = 0
  · rw [if_pos (Or.inl h0)]; exact read_long hb h
  · rw [if_neg (by omega)]
    exact read_short hb h (by omega) (by omega) fun j hj => (runV_at b j f (by omega)).2
end Go.Proofs.YtakdcndkpipfbaaDoor.Ad
