/- What the layer addr reads in a text: plain Lean, no program. -/
import Derived.Test.YtpaplobjmmpliaaDoorAp
import Derived.Test.YtpaplobjmmpliaaDoorAm
import Derived.Lib.IndexMore
namespace Go.Proofs.YtpaplobjmmpliaaDoor.Ad
set_option linter.unusedVariables false
set_option linter.unusedSimpArgs false
/-- Sixteen bytes of which the first m are f's. -/
def partF (f : Nat → UInt8) (m : Nat) : List UInt8 := (List.range 16).map fun i => if i < m then f i else 0
theorem partF_len (f : Nat → UInt8) (m : Nat) : (partF f m).length = 16 := by simp [partF]
theorem partF_at (f : Nat → UInt8) (m i : Nat) (hi : i < 16) : (partF f m).getD i 0 = if i < m then f i else 0 := by
  simp [partF, List.getD_eq_getElem?_getD, List.getElem?_map, List.getElem?_range hi]
theorem partF_zero (f : Nat → UInt8) : partF f 0 = zeros := ext16 (partF_len _ _) rfl fun i hi => by
  rw [partF_at _ _ _ hi, if_neg (by omega)]
  have : ∀ j : Fin 16, (0 : UInt8) = zeros.getD j.val 0 := by decide
  exact this ⟨i, hi⟩
theorem partF_set (f : Nat → UInt8) (m : Nat) (hm : m < 16) : (partF f m).set m (f m) = partF f (m + 1) := ext16 (by simp [partF_len]) (partF_len _ _) fun i hi => by
  rw [List.getD_eq_getElem?_getD, List.getElem?_set]
  by_cases h : m = i
  · subst h
    rw [if_pos rfl, if_pos (by rw [partF_len]; exact hm), partF_at _ _ _ hi, if_pos (by omega)]; rfl
  · rw [if_neg h, ← List.getD_eq_getElem?_getD, partF_at _ _ _ hi, partF_at _ _ _ hi]
    by_cases h2 : i < m
    · rw [if_pos h2, if_pos (by omega)]
    · rw [if_neg h2, if_neg (by omega)]
/-- A decimal number of an address. -/
def decOk (p : List UInt8) : Bool := decide (0 ≤ numV p 10 3) && decide (numV p 10 3 ≤ 255) && !(decide (1 < p.length) && p.getD 0 0 == 48)
def decB (ps : List (List UInt8)) (i : Nat) : UInt8 := UInt8.ofNat (numV (ps.getD i []) 10 3).toNat
def read4 (l : List UInt8) : Option Addr :=
  if (cuts 46 l).length = 4 then (if (cuts 46 l).all decOk then some ⟨4, partF (decB (cuts 46 l)) 4⟩ else none) else none
/-- Groups. -/
def nums : List (List UInt8) → Option (List Int)
  | [] => some []
  | p :: l => if numV p 16 4 < 0 then none else (nums l).map (numV p 16 4 :: ·)
def groupsV (l : List UInt8) : Option (List Int) := if l = [] then some [] else nums (cuts 58 l)
def groupB (g : List Int) (i : Nat) : UInt8 := if i % 2 = 0 then UInt8.ofNat (g.getD (i / 2) 0 / 256).toNat else UInt8.ofNat (g.getD (i / 2) 0 % 256).toNat
def ofGroups (g : List Int) : Addr := ⟨6, partF (groupB g) 16⟩
def fill (x y : List Int) : List Int := x ++ List.replicate (8 - (x.length + y.length)) 0 ++ y
def read6 (l : List UInt8) : Option Addr :=
  match groupsV (Lib.cut l [58, 58]).1, groupsV (Lib.cut l [58, 58]).2.1 with
  | some x, some y => if (Lib.cut l [58, 58]).2.2 = true then (if x.length + y.length ≤ 7 then some (ofGroups (fill x y)) else none) else (if x.length + y.length = 8 then some (ofGroups (fill x y)) else none)
  | _, _ => none
def readV (l : List UInt8) : Option Addr := if l.contains 58 then read6 l else read4 l
theorem foldD_in (base : Int) (hb : 2 ≤ base ∧ base ≤ 16) : ∀ (l : List UInt8) (acc : Int), 0 ≤ acc → foldD base l acc = -1 ∨ 0 ≤ foldD base l acc ∧ foldD base l acc < (acc + 1) * base ^ l.length
  | [], acc, h => .inr ⟨h, by simp [foldD]; omega⟩
  | c :: l, acc, h => by
    unfold foldD
    by_cases hc : base ≤ digitV c
    · rw [if_pos hc]; exact .inl rfl
    · rw [if_neg hc]
      have hd := digitV_in c
      have h0 : 0 ≤ acc * base := Int.mul_nonneg h (by omega)
      rcases foldD_in base hb l (acc * base + digitV c) (by omega) with h1 | ⟨h1, h2⟩
      · exact .inl h1
      · refine .inr ⟨h1, Int.lt_of_lt_of_le h2 ?_⟩
        rw [List.length_cons, Int.pow_succ, Int.mul_comm (base ^ l.length), ← Int.mul_assoc]
        refine Int.mul_le_mul_of_nonneg_right ?_ (Int.pow_nonneg (by omega))
        rw [Int.add_mul]; omega
theorem num16_in (p : List UInt8) : numV p 16 4 = -1 ∨ 0 ≤ numV p 16 4 ∧ numV p 16 4 ≤ 65535 := by
  unfold numV
  by_cases h0 : p.length = 0
  · rw [if_pos h0]; exact .inl rfl
  rw [if_neg h0]
  by_cases h1 : (4 : Int) < p.length
  · rw [if_pos h1]; exact .inl rfl
  rw [if_neg h1]
  rcases foldD_in 16 (by omega) p 0 (by omega) with h | ⟨h, h2⟩
  · exact .inl h
  · refine .inr ⟨h, ?_⟩
    have : (16 : Nat) ^ p.length ≤ 16 ^ 4 := Nat.pow_le_pow_right (by omega) (by omega)
    have h3 : ((16 ^ p.length : Nat) : Int) ≤ 65536 := by omega
    simp at h2 h3
    omega
theorem num10_in (p : List UInt8) : numV p 10 3 = -1 ∨ 0 ≤ numV p 10 3 ∧ numV p 10 3 ≤ 999 := by
  unfold numV
  by_cases h0 : p.length = 0
  · rw [if_pos h0]; exact .inl rfl
  rw [if_neg h0]
  by_cases h1 : (3 : Int) < p.length
  · rw [if_pos h1]; exact .inl rfl
  rw [if_neg h1]
  rcases foldD_in 10 (by omega) p 0 (by omega) with h | ⟨h, h2⟩
  · exact .inl h
  · refine .inr ⟨h, ?_⟩
    have : (10 : Nat) ^ p.length ≤ 10 ^ 3 := Nat.pow_le_pow_right (by omega) (by omega)
    have h3 : ((10 ^ p.length : Nat) : Int) ≤ 1000 := by omega
    simp at h2 h3
    omega
theorem nums_in : ∀ (ps : List (List UInt8)) (g : List Int), nums ps = some g → g.length = ps.length ∧ ∀ n ∈ g, 0 ≤ n ∧ n ≤ 65535
  | [], g, h => by simp [nums] at h; subst h; exact ⟨rfl, fun n hn => by simp at hn⟩
  | p :: ps, g, h => by
    unfold nums at h
    by_cases hp : numV p 16 4 < 0
    · rw [if_pos hp] at h; cases h
    · rw [if_neg hp] at h
      obtain ⟨g', hg, rfl⟩ := Option.map_eq_some_iff.1 h
      have ih := nums_in ps g' hg
      refine ⟨by simp [ih.1], fun n hn => ?_⟩
      rcases List.mem_cons.1 hn with rfl | hn
      · have := num16_in p; omega
      · exact ih.2 n hn
theorem groupsV_in {l : List UInt8} {g : List Int} (h : groupsV l = some g) : g.length ≤ l.length + 1 ∧ ∀ n ∈ g, 0 ≤ n ∧ n ≤ 65535 := by
  unfold groupsV at h
  by_cases hl : l = []
  · rw [if_pos hl] at h; injection h with h; subst h; exact ⟨by simp, fun n hn => by simp at hn⟩
  · rw [if_neg hl] at h
    have := nums_in _ _ h
    have := cuts_le 58 l
    exact ⟨by omega, (nums_in _ _ h).2⟩
end Go.Proofs.YtpaplobjmmpliaaDoor.Ad
