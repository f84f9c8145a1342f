/- An address as a record, and what the layer addr answers of it: plain Lean, no program. -/
namespace Go.Proofs.YtpaplobjmmpliaaDoor.Ad
/-- V and the sixteen bytes. -/
structure Addr where
  v : Int
  b : List UInt8
  deriving DecidableEq
namespace Addr
def ok (a : Addr) : Prop := a.b.length = 16
def nb (a : Addr) : Int := if a.v = 4 then (if (a.b.drop 4).all (· == 0) then 32 else 0) else if a.v = 6 then 128 else 0
def valid (a : Addr) : Bool := decide (0 < a.nb)
theorem bits_six {a : Addr} (h : a.v = 6) : a.nb = 128 := by
  unfold nb; rw [if_neg (by omega), if_pos h]
theorem zeros_of {a : Addr} (hb : a.ok) (h : ∀ k, k < 12 → a.b.getD (4 + k) 0 = 0) : (a.b.drop 4).all (· == 0) = true := by
  rw [List.all_eq_true]; intro x hx
  obtain ⟨k, hk, rfl⟩ := List.mem_iff_getElem.1 hx
  unfold ok at hb
  have := h k (by simp at hk; omega)
  simp at hk ⊢
  rwa [List.getD_eq_getElem?_getD, List.getElem?_eq_getElem (by omega)] at this
theorem hole_of {a : Addr} (hb : a.ok) (k : Nat) (hk : k < 12) (hn : a.b.getD (4 + k) 0 ≠ 0) : ¬ (a.b.drop 4).all (· == 0) = true := by
  intro h
  rw [List.all_eq_true] at h
  unfold ok at hb
  refine hn ?_
  rw [List.getD_eq_getElem?_getD, List.getElem?_eq_getElem (by omega)]
  simpa using h (a.b[4 + k]'(by omega)) (List.mem_iff_getElem.2 ⟨k, by simp; omega, by simp⟩)
theorem bits_hole {a : Addr} (hb : a.ok) (h6 : a.v ≠ 6) (k : Nat) (hk : k < 12) (hn : a.b.getD (4 + k) 0 ≠ 0) : a.nb = 0 := by
  unfold nb
  by_cases h4 : a.v = 4
  · rw [if_pos h4, if_neg (hole_of hb k hk hn)]
  · rw [if_neg h4, if_neg h6]
theorem bits_full {a : Addr} (hb : a.ok) (h6 : a.v ≠ 6) (h : ∀ k, k < 12 → a.b.getD (4 + k) 0 = 0) : a.valid = (a.v == 4) := by
  unfold valid nb
  by_cases h4 : a.v = 4
  · rw [if_pos h4, if_pos (zeros_of hb h), h4]; rfl
  · rw [if_neg h4, if_neg h6, beq_eq_false_iff_ne.2 h4]; rfl
end Addr
end Go.Proofs.YtpaplobjmmpliaaDoor.Ad
