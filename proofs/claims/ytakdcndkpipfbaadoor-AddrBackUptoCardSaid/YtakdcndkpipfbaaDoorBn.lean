/- Contracts of strconv.Itoa and strings.Join as addr.Print calls them. Conditions: the library's own table holds what its text lays. -/
import Derived.Test.YtakdcndkpipfbaaDoorBm
import Derived.Test.YtakdcndkpipfbaaDoorSh
namespace Go.Proofs.YtakdcndkpipfbaaDoor.Ad
set_option linter.unusedVariables false
set_option linter.unusedSimpArgs false
open Go.RowKit W
theorem grow_below (w : World) (n : Nat) (os : Array Obj) : Below w.heap.size w (Go.Sort.grow (w.drewN n) os) := by
  refine ⟨rfl, rfl, rfl, ?_, fun k hk => ?_⟩
  · show w.heap.size ≤ (w.heap ++ os).size; simp
  · show (w.heap ++ os)[k]? = _; rw [Array.getElem?_append_left hk]
theorem itoa_calls (n : Nat) (hn : n < 65536) (w : World) (hg : Gl w) : Calls Tryd.prog 29 #[.int .i64 n] w fun e w' => e = .returned (.string (S (textB 10 n))) ∧ Below w.heap.size w w' := by
  refine (Tryd.strconv_Itoa (n : Int) (by omega) (by omega) w hg.pow.here).mono fun e w' h => ?_
  obtain ⟨rfl, k, os, rfl⟩ := h
  exact ⟨by rw [Lib.itoa_nonneg, ← textB_ten]; rfl, grow_below _ _ _⟩
/-- The texts of the groups. -/
def gT (b : List UInt8) : List ByteArray := (List.range 8).map fun k => S (textB 16 (grp b k))
theorem gT_get (b : List UInt8) (k : Nat) (h : k < 8) : (gT b)[k]? = some (S (textB 16 (grp b k))) := by
  unfold gT; simp [h]
theorem gT_win (b : List UInt8) (i n : Nat) (h : i + n ≤ 8) : (((gT b).drop i).take n).map (·.data.toList) = (List.range' i n).map fun k => textB 16 (grp b k) := by
  apply List.ext_getElem?
  intro k
  rw [List.getElem?_map, List.getElem?_map]
  by_cases hk : k < n
  · rw [List.getElem?_take_of_lt hk, List.getElem?_drop, gT_get _ _ (by omega), List.getElem?_range' hk]
    simp [S]
  · rw [List.getElem?_eq_none (by simp; omega), List.getElem?_eq_none (by simp; omega)]; rfl
def gC (l : List ByteArray) : Array Value := (l.map Value.string).toArray
theorem joinG_calls (b : List UInt8) (i n c g : Nat) (ad : Option Go.Addr) (h : i + n ≤ 8) (hc : n ≤ c) (ha : 0 < n → ad = some ⟨g, i, none⟩) (w : World) (hb : Blk w g 9 (gC (gT b))) :
    Calls Tryd.prog 30 #[.slice ad n c, .string ⟨#[58]⟩] w fun e w' => e = .returned (.string (S (joinG b i n))) ∧ Below w.heap.size w w' := by
  by_cases h0 : n = 0
  · subst h0
    exact (Tryd.strings_Join_none ad c ⟨#[58]⟩ w).mono fun e w' h => ⟨h.1, h.2 ▸ Below.refl _ _⟩
  · rw [ha (by omega)]
    have hl : (((gT b).drop i).take n).length = n := by unfold gT; simp; omega
    have hj : Lib.join ((((gT b).drop i).take n).map (·.data.toList)) [58] = joinG b i n := by rw [gT_win b i n h]; rfl
    have := Tryd.strings_Join g i c (((gT b).drop i).take n) ⟨#[58]⟩ w (fun j x hj => ?_) hb.lt (by rw [hl]; omega) (by rw [hl]; exact hc) (by
      show (Lib.join _ [58]).length ≤ _
      rw [hj]; have := joinG_len b i n; omega)
    · rw [hl] at this
      refine this.mono fun e w' h => ⟨?_, h.2⟩
      rw [h.1, ← hj]; rfl
    · rw [hb.cell]
      have hjn : j < n := by have := (List.getElem?_eq_some_iff.1 hj).1; rw [hl] at this; exact this
      rw [List.getElem?_take_of_lt hjn, List.getElem?_drop] at hj
      unfold gC
      simp [hj]
theorem join4_calls (b : List UInt8) (g : Nat) (w : World) (hb : Blk w g 9 (gC ([0, 1, 2, 3].map fun i => S (textB 10 (b.getD i 0).toNat)))) :
    Calls Tryd.prog 30 #[.slice (some ⟨g, 0, none⟩) 4 4, .string ⟨#[46]⟩] w fun e w' => e = .returned (.string (S (print4 b))) ∧ Below w.heap.size w w' := by
  have hj : Lib.join (([0, 1, 2, 3].map fun i => S (textB 10 (b.getD i 0).toNat)).map (·.data.toList)) [46] = print4 b := by unfold print4; simp [S_list]
  have h1 : (print4 b).length ≤ 2000 := by
    rw [print4_out]
    have := fun j : Nat => Nat.le_trans (textB_le 10 (b.getD j 0).toNat) (by have := (b.getD j 0).toNat_lt; omega : (b.getD j 0).toNat + 1 ≤ 256)
    have h0 := this 0; have h1 := this 1; have h2 := this 2; have h3 := this 3
    simp only [List.length_append, List.length_singleton]; omega
  have := Tryd.strings_Join g 0 4 ([0, 1, 2, 3].map fun i => S (textB 10 (b.getD i 0).toNat)) ⟨#[46]⟩ w (fun j x hj => by
    rw [hb.cell]; unfold gC; rw [List.getElem?_toArray, List.getElem?_map, Nat.zero_add, hj]; rfl) hb.lt (by simp) (by simp) (by
      show (Lib.join _ [46]).length ≤ _
      rw [hj]; omega)
  refine this.mono fun e w' h => ⟨?_, h.2⟩
  rw [h.1, ← hj]; rfl
theorem text_zero (n : Nat) : ((S (textB 16 n)).toList == [48]) = decide (n = 0) := by
  rw [ByteArray.toList_eq, S_list]
  by_cases h : n = 0
  · subst h; rw [textB_one (by omega)]; decide
  · rw [decide_eq_false h, beq_eq_false_iff_ne]
    intro h2
    by_cases h1 : n < 16
    · rw [textB_one h1] at h2
      have : ∀ k : Fin 16, k.val ≠ 0 → [digC k.val] ≠ [48] := by decide
      exact this ⟨n, h1⟩ h h2
    · rw [textB_more (by omega) (by omega)] at h2
      have h3 := congrArg List.length h2
      have := textB_pos 16 (n / 16)
      simp at h3; rw [h3] at this; simp at this
end Go.Proofs.YtakdcndkpipfbaaDoor.Ad
