/- What both printers write: plain Lean, no program. -/
import Derived.Test.YtakdcndkpipfbaaDoorBg
import Derived.Test.YtakdcndkpipfbaaDoorAd
import Derived.Lib.Join
namespace Go.Proofs.YtakdcndkpipfbaaDoor.Ad
set_option linter.unusedVariables false
set_option linter.unusedSimpArgs false
/-- The i-th group of two bytes. -/
def grp (b : List UInt8) (i : Nat) : Nat := (b.getD (2 * i) 0).toNat * 256 + (b.getD (2 * i + 1) 0).toNat
theorem grp_lt (b : List UInt8) (i : Nat) : grp b i < 65536 := by
  unfold grp
  have := (b.getD (2 * i) 0).toNat_lt
  have := (b.getD (2 * i + 1) 0).toNat_lt
  omega
theorem byte_zero (x : UInt8) : x.toNat = 0 ↔ x = 0 := ⟨fun h => UInt8.toNat.inj (by simpa using h), fun h => by rw [h]; rfl⟩
theorem grp_zero (b : List UInt8) (i : Nat) : grp b i = 0 ↔ b.getD (2 * i) 0 = 0 ∧ b.getD (2 * i + 1) 0 = 0 := by
  rw [← byte_zero, ← byte_zero]; unfold grp; omega
/-- How many groups are 0 from the i-th on. -/
def runV (b : List UInt8) (i : Nat) : Nat := if h : i < 8 ∧ grp b i = 0 then runV b (i + 1) + 1 else 0
termination_by 8 - i
theorem runV_yes {b : List UInt8} {i : Nat} (h : i < 8) (h2 : grp b i = 0) : runV b i = runV b (i + 1) + 1 := by rw [runV, dif_pos ⟨h, h2⟩]
theorem runV_no {b : List UInt8} {i : Nat} (h : ¬ (i < 8 ∧ grp b i = 0)) : runV b i = 0 := by rw [runV, dif_neg h]
theorem runV_le (b : List UInt8) : ∀ n i, 8 - i ≤ n → runV b i ≤ 8 - i
  | 0, i, h => by rw [runV_no (by omega)]; omega
  | n + 1, i, h => by
    by_cases h1 : i < 8 ∧ grp b i = 0
    · rw [runV_yes h1.1 h1.2]; have := runV_le b n (i + 1) (by omega); omega
    · rw [runV_no h1]; omega
theorem runV_le8 (b : List UInt8) (i : Nat) : runV b i ≤ 8 - i := runV_le b _ i (Nat.le_refl _)
theorem runV_at (b : List UInt8) : ∀ k i, k < runV b i → i + k < 8 ∧ grp b (i + k) = 0
  | 0, i, h => by
    by_cases h1 : i < 8 ∧ grp b i = 0
    · exact h1
    · rw [runV_no h1] at h; omega
  | k + 1, i, h => by
    by_cases h1 : i < 8 ∧ grp b i = 0
    · rw [runV_yes h1.1 h1.2] at h
      have := runV_at b k (i + 1) (by omega)
      rwa [show i + 1 + k = i + (k + 1) by omega] at this
    · rw [runV_no h1] at h; omega
/-- n groups from the i-th on, a colon between each two. -/
def joinG (b : List UInt8) (i n : Nat) : List UInt8 := Lib.join ((List.range' i n).map fun k => textB 16 (grp b k)) [58]
theorem joinTail_app (sep : List UInt8) : ∀ (r s : List (List UInt8)), Lib.joinTail sep (r ++ s) = Lib.joinTail sep r ++ Lib.joinTail sep s := by
  intro r s
  unfold Lib.joinTail
  simp
theorem join_snoc (sep x : List UInt8) (l : List (List UInt8)) (h : l ≠ []) : Lib.join (l ++ [x]) sep = Lib.join l sep ++ sep ++ x := by
  cases l with
  | nil => exact absurd rfl h
  | cons y r =>
    rw [List.cons_append, Lib.join_cons, Lib.join_cons, joinTail_app, List.append_assoc, List.append_assoc]
    congr 2
    simp [Lib.joinTail]
theorem joinG_zero (b : List UInt8) (i : Nat) : joinG b i 0 = [] := rfl
theorem joinG_one (b : List UInt8) (i : Nat) : joinG b i 1 = textB 16 (grp b i) := by unfold joinG; exact Lib.join_one _ _
theorem joinG_succ (b : List UInt8) (i n : Nat) (h : 0 < n) : joinG b i (n + 1) = joinG b i n ++ [58] ++ textB 16 (grp b (i + n)) := by
  unfold joinG
  rw [List.range'_concat, List.map_append, List.map_singleton, Nat.one_mul]
  exact join_snoc _ _ _ (by cases n with | zero => omega | succ n => simp [List.range'_succ])
/-- The longest run so far: where, and how long. -/
def bestTo (b : List UInt8) : Nat → Nat × Nat
  | 0 => (0, 1)
  | k + 1 => if (bestTo b k).2 < runV b k then (k, runV b k) else bestTo b k
/-- The first of the longest runs of two at least; (0, 1): none. -/
def best (b : List UInt8) : Nat × Nat := bestTo b 8
theorem bestTo_spec (b : List UInt8) : ∀ k, (bestTo b k = (0, 1) ∧ ∀ i, i < k → runV b i ≤ 1) ∨
    (2 ≤ (bestTo b k).2 ∧ (bestTo b k).1 < k ∧ runV b (bestTo b k).1 = (bestTo b k).2 ∧ (∀ i, i < k → runV b i ≤ (bestTo b k).2) ∧ ∀ i, i < (bestTo b k).1 → runV b i < (bestTo b k).2)
  | 0 => .inl ⟨rfl, fun i h => by omega⟩
  | k + 1 => by
    have ih := bestTo_spec b k
    unfold bestTo
    by_cases h : (bestTo b k).2 < runV b k
    · rw [if_pos h]
      refine .inr ⟨?_, by show k < k + 1; omega, rfl, fun i hi => ?_, fun i hi => ?_⟩
      · show 2 ≤ runV b k
        rcases ih with ⟨h1, _⟩ | ⟨h1, _⟩
        · rw [h1] at h; exact h
        · omega
      · show runV b i ≤ runV b k
        by_cases hik : i = k
        · rw [hik]; exact Nat.le_refl _
        · rcases ih with ⟨h1, h2⟩ | ⟨h1, _, _, h2, _⟩
          · have := h2 i (by omega); rw [h1] at h; simp at h; omega
          · have := h2 i (by omega); omega
      · show runV b i < runV b k
        rcases ih with ⟨h1, h2⟩ | ⟨h1, _, _, h2, _⟩
        · have := h2 i hi; rw [h1] at h; simp at h; omega
        · have := h2 i hi; omega
    · rw [if_neg h]
      rcases ih with ⟨h1, h2⟩ | ⟨h1, h3, h4, h2, h5⟩
      · refine .inl ⟨h1, fun i hi => ?_⟩
        by_cases hik : i = k
        · rw [hik]; rw [h1] at h; simp at h; omega
        · exact h2 i (by omega)
      · refine .inr ⟨h1, by omega, h4, fun i hi => ?_, h5⟩
        by_cases hik : i = k
        · rw [hik]; omega
        · exact h2 i (by omega)
theorem best_none {b : List UInt8} (h : ∀ i, i < 8 → runV b i ≤ 1) : best b = (0, 1) := by
  rcases bestTo_spec b 8 with ⟨h1, _⟩ | ⟨h1, h2, h3, _⟩
  · exact h1
  · have := h _ h2; omega
theorem best_some {b : List UInt8} {f m : Nat} (hm : 2 ≤ m) (hf : f < 8) (h1 : runV b f = m) (h2 : ∀ i, i < 8 → runV b i ≤ m) (h3 : ∀ i, i < f → runV b i < m) : best b = (f, m) := by
  rcases bestTo_spec b 8 with ⟨g1, g2⟩ | ⟨g1, g2, g3, g4, g5⟩
  · have := g2 f hf; omega
  · have e2 : (bestTo b 8).2 = m := by have := g4 f hf; have := h2 _ g2; omega
    have e1 : (bestTo b 8).1 = f := by
      rcases Nat.lt_trichotomy (bestTo b 8).1 f with h | h | h
      · have := h3 _ h; omega
      · exact h
      · have := g5 _ h; omega
    unfold best
    rw [← e1, ← e2]
theorem best_fits (b : List UInt8) : (best b = (0, 1)) ∨ (2 ≤ (best b).2 ∧ (best b).1 + (best b).2 ≤ 8 ∧ runV b (best b).1 = (best b).2) := by
  rcases bestTo_spec b 8 with ⟨g1, g2⟩ | ⟨g1, g2, g3, g4, g5⟩
  · exact .inl g1
  · refine .inr ⟨g1, ?_, g3⟩
    have := runV_le8 b (bestTo b 8).1
    unfold best; omega
def print6 (b : List UInt8) : List UInt8 := if (best b).2 = 1 then joinG b 0 8 else joinG b 0 (best b).1 ++ [58, 58] ++ joinG b ((best b).1 + (best b).2) (8 - ((best b).1 + (best b).2))
def print4 (b : List UInt8) : List UInt8 := Lib.join ([0, 1, 2, 3].map fun i => textB 10 (b.getD i 0).toNat) [46]
def printV (a : Addr) : List UInt8 := if a.valid = true then (if a.v = 4 then print4 a.b else print6 a.b) else []
theorem print4_out (b : List UInt8) : print4 b = textB 10 (b.getD 0 0).toNat ++ [46] ++ textB 10 (b.getD 1 0).toNat ++ [46] ++ textB 10 (b.getD 2 0).toNat ++ [46] ++ textB 10 (b.getD 3 0).toNat := by
  unfold print4
  simp [Lib.join, List.intercalate]
end Go.Proofs.YtakdcndkpipfbaaDoor.Ad
