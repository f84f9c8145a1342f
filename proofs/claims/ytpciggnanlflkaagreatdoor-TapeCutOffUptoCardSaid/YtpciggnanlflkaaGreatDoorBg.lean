/- Numbers as texts to a base: plain Lean, no program. -/
import Derived.Lib.ItoaNum
namespace Go.Proofs.YtpciggnanlflkaaGreatDoor.Ad
set_option linter.unusedVariables false
set_option linter.unusedSimpArgs false
/-- The digit of a number below 36. -/
def digC (d : Nat) : UInt8 := if d < 10 then UInt8.ofNat (48 + d) else UInt8.ofNat (87 + d)
/-- The digits of n to a base of two at least. -/
def textB (b : Nat) (n : Nat) : List UInt8 := if h : n < b ∨ b < 2 then [digC n] else textB b (n / b) ++ [digC (n % b)]
termination_by n
decreasing_by
  have h1 : b ≤ n := by omega
  have h2 : 2 ≤ b := by omega
  exact Nat.div_lt_self (by omega) (by omega)
theorem textB_one {b n : Nat} (h : n < b) : textB b n = [digC n] := by rw [textB, dif_pos (.inl h)]
theorem textB_more {b n : Nat} (h : b ≤ n) (hb : 2 ≤ b) : textB b n = textB b (n / b) ++ [digC (n % b)] := by rw [textB, dif_neg (by omega)]
theorem textB_ten : ∀ n, textB 10 n = Lib.decDigits n := by
  intro n
  induction n using Nat.strongRecOn with
  | _ n ih =>
    by_cases h : n < 10
    · rw [textB_one h, Lib.decDigits, dif_pos h]; unfold digC; rw [if_pos h]
    · rw [textB_more (by omega) (by omega), ih _ (by omega)]
      conv => rhs; rw [Lib.decDigits, dif_neg h]
      unfold digC; rw [if_pos (by omega)]
theorem textB_len16 {n : Nat} (h : n < 65536) : 1 ≤ (textB 16 n).length ∧ (textB 16 n).length ≤ 4 := by
  by_cases h1 : n < 16
  · rw [textB_one h1]; simp
  rw [textB_more (by omega) (by omega)]
  by_cases h2 : n / 16 < 16
  · rw [textB_one h2]; simp
  rw [textB_more (by omega) (by omega)]
  by_cases h3 : n / 16 / 16 < 16
  · rw [textB_one h3]; simp
  rw [textB_more (by omega) (by omega), textB_one (by omega)]; simp
end Go.Proofs.YtpciggnanlflkaaGreatDoor.Ad
