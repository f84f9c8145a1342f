/- Contract of the reference's parse4. Conditions: a text is shorter than 2^32. -/
import Derived.Test.YtpaplobjmmpliaaGreatDoorAu
namespace Go.Proofs.YtpaplobjmmpliaaGreatDoor.Ad
set_option linter.unusedVariables false
set_option linter.unusedSimpArgs false
open Go.RowKit W
def ansA (r : Option Addr) : Addr := r.getD zeroAd
def ansE (r : Option Addr) : Int := if r.isSome then 0 else 30
theorem all_ok {ps : List (List UInt8)} (h : ∀ j, j < ps.length → decOk (ps.getD j []) = true) : ps.all decOk = true := by
  rw [List.all_eq_true]; intro p hp
  obtain ⟨j, hj, rfl⟩ := List.mem_iff_getElem.1 hp
  have := h j hj
  rwa [List.getD_eq_getElem?_getD, List.getElem?_eq_getElem hj] at this
theorem not_all {ps : List (List UInt8)} {j : Nat} (hj : j < ps.length) (h : decOk (ps.getD j []) = false) : ¬ ps.all decOk = true := by
  intro h'
  rw [List.all_eq_true] at h'
  have := h' (ps.getD j []) (by rw [List.getD_eq_getElem?_getD, List.getElem?_eq_getElem hj]; exact List.getElem_mem _)
  rw [h] at this; cases this
theorem decOk_neg {p : List UInt8} (h : numV p 10 3 < 0) : decOk p = false := by
  unfold decOk; rw [decide_eq_false (by omega)]; rfl
theorem decOk_big {p : List UInt8} (h : 255 < numV p 10 3) : decOk p = false := by
  unfold decOk; rw [decide_eq_false (p := numV p 10 3 ≤ 255) (by omega)]; simp
theorem decOk_zero {p : List UInt8} (h : 1 < p.length) (h0 : p.getD 0 0 = 48) : decOk p = false := by
  unfold decOk; rw [decide_eq_true h, h0]; simp
theorem decOk_yes {p : List UInt8} (h1 : 0 ≤ numV p 10 3) (h2 : numV p 10 3 ≤ 255) (h3 : ¬ (1 < p.length ∧ p.getD 0 0 = 48)) : decOk p = true := by
  unfold decOk; rw [decide_eq_true h1, decide_eq_true h2]
  by_cases h : 1 < p.length
  · rw [decide_eq_true h, beq_eq_false_iff_ne.2 (fun h' => h3 ⟨h, h'⟩)]; rfl
  · rw [decide_eq_false h]; rfl
theorem num_pos {p : List UInt8} (h : 0 ≤ numV p 10 3) : 0 < p.length := by
  rcases Nat.eq_zero_or_pos p.length with h0 | h0
  · unfold numV at h; rw [if_pos h0] at h; omega
  · exact h0
end Go.Proofs.YtpaplobjmmpliaaGreatDoor.Ad
