/- What holds of a path at all times, kept by each of its methods: plain Lean, no program. -/
import Derived.Test.YtmanojnhjhpokaaPD
namespace Go.Proofs.Ytmanojnhjhpokaa.PB
set_option linter.unusedVariables false
set_option linter.unusedSimpArgs false

/-- What holds of a path that has given at most K numbers. -/
def Inv (K : Int) (s : Pt) : Prop :=
  (s.v = 4 ∨ s.v = 6) ∧ floorOf s.v ≤ s.base ∧ s.base ≤ s.most ∧ s.most ≤ 65535 ∧ 1 ≤ s.mtries ∧ s.mtries ≤ 16 ∧ 1 ≤ s.mlosses ∧ s.mlosses ≤ 64 ∧ 1 ≤ s.wait ∧ s.wait ≤ 1099511627776 ∧ 1 ≤ s.raise ∧ s.raise ≤ 1099511627776 ∧
  (s.state = 1 ∨ s.state = 2 ∨ s.state = 3 ∨ s.state = 4) ∧
  0 ≤ s.low ∧ s.low ≤ s.most ∧ (s.state = 2 ∨ s.state = 3 → s.base ≤ s.low) ∧
  0 ≤ s.high ∧ s.high ≤ s.most + 1 ∧ (s.state = 2 → s.low + 1 < s.high) ∧ (s.state = 3 → s.low = s.most ∨ s.high = s.low + 1) ∧
  (s.hsize = 0 ∨ (s.state = 2 ∧ s.low < s.hsize ∧ s.hsize < s.high)) ∧
  0 ≤ s.tries ∧ s.tries < s.mtries ∧ 0 ≤ s.losses ∧ s.losses < s.mlosses ∧
  0 ≤ s.unum ∧ s.unum ≤ s.number ∧ s.number ≤ K ∧ 0 ≤ s.usize ∧ s.usize ≤ 65535 ∧
  (0 < s.unum → (s.state = 1 ∧ s.usize = s.base) ∨ (s.state = 2 ∧ s.low < s.usize ∧ s.usize < s.high ∧ s.usize ≤ s.most)) ∧
  0 ≤ s.uat ∧ s.uat ≤ s.now ∧ 0 ≤ s.since ∧ s.since ≤ s.now ∧ s.now ≤ 1099511627776

theorem floor_pos (v : Int) : 0 < floorOf v ∧ floorOf v ≤ 1280 := by unfold floorOf; split <;> omega
theorem Inv.mono {K K' : Int} {s : Pt} (h : Inv K s) (hk : K ≤ K') : Inv K' s := by unfold Inv at *; omega
theorem Inv.at_ {K n : Int} {s : Pt} (h : Inv K s) (h1 : ¬ n < s.now) (h2 : ¬ 1099511627776 < n) : Inv K ({ s with now := n } : Pt) := by
  unfold Inv at *; dsimp only; omega
theorem Inv.under0 {K t : Int} {s : Pt} (h : Inv K s) (h0 : 0 ≤ t) (h1 : t < s.mtries) : Inv K (s.under0 t) := by
  unfold Inv at *; dsimp only [Pt.under0]; omega
theorem Inv.drop {K : Int} {s : Pt} (h : Inv K s) (hu : 0 < s.unum) : Inv K s.drop := by
  have := floor_pos s.v
  unfold Pt.drop
  split
  · exact h.under0 (by unfold Inv at h; omega) (by assumption)
  split
  · unfold Inv at *; dsimp only [Pt.under0, Pt.enters]; omega
  split
  · unfold Inv at *; dsimp only [Pt.under0, Pt.enters]; omega
  · unfold Inv at *; dsimp only [Pt.under0, Pt.enters]; omega
theorem drop_unum (s : Pt) : s.drop.unum = 0 := by
  unfold Pt.drop; split
  · rfl
  split
  · rfl
  split <;> rfl
theorem Inv.raised {K n : Int} {s : Pt} (h : Inv K s) (hu : s.unum = 0) : Inv K (s.raised n) := by
  have := floor_pos s.v
  unfold Pt.raised
  split
  · split
    · split
      · unfold Inv at *; dsimp only [Pt.search]; omega
      · exact h
    · split
      · unfold Inv at *; dsimp only [Pt.toBase]; omega
      · exact h
  · exact h
theorem raised_unum {n : Int} {s : Pt} (hu : s.unum = 0) : (s.raised n).unum = 0 := by
  unfold Pt.raised
  split
  · split
    · split <;> exact hu
    · split <;> exact hu
  · exact hu
theorem raised_now (n : Int) (s : Pt) : (s.raised n).now = s.now := by
  unfold Pt.raised
  split
  · split
    · split <;> rfl
    · split <;> rfl
  · rfl
theorem drop_now (s : Pt) : s.drop.now = s.now := by
  unfold Pt.drop; split
  · rfl
  split
  · rfl
  split <;> rfl
/-- What is tried lies in its bounds. -/
theorem tried_in {K : Int} {s : Pt} (h : Inv K s) : (s.state = 1 → s.tried.1 = s.base) ∧ (s.state = 2 → s.low < s.tried.1 ∧ s.tried.1 < s.high ∧ s.tried.1 ≤ s.most) := by
  have := floor_pos s.v
  unfold Pt.tried
  constructor
  · intro e; rw [if_pos e]
  · intro e
    rw [if_neg (by omega)]
    unfold Inv at h
    split
    · dsimp only; omega
    split
    · dsimp only; omega
    · rw [Int.tdiv_eq_ediv_of_nonneg (by omega)]; dsimp only; omega
theorem Inv.told {K n : Int} {s : Pt} (h : Inv K s) (hn : s.now = n) : Inv (K + 1) (s.told n).2 := by
  have ht := tried_in h
  have hf := floor_pos s.v
  subst hn
  unfold Pt.told
  split
  · rename_i e; have := ht.1 e; unfold Inv at *; dsimp only; omega
  split
  · rename_i e; have := ht.2 e; unfold Inv at *; dsimp only; omega
  · exact h.mono (by omega)
theorem Inv.next {K n : Int} {s : Pt} (h : Inv K s) (hn : s.now = n) : Inv (K + 1) (s.next n).2 := by
  unfold Pt.next
  split
  · rename_i hu
    split
    · exact h.mono (by omega)
    · exact ((h.drop hu).raised (drop_unum s)).told (by rw [raised_now, drop_now, hn])
  · rename_i hu
    have : s.unum = 0 := by unfold Inv at h; omega
    exact (h.raised this).told (by rw [raised_now, hn])
theorem Inv.acked1 {K : Int} {s : Pt} (h : Inv K s) (hu : 0 < s.unum) : (s.acked1.state = 2 ∧ s.base ≤ s.acked1.low ∧ s.acked1.low ≤ s.acked1.most ∧ s.acked1.low < s.acked1.high) ∧ (s.acked1.hsize = 0 ∨ s.acked1.low + 1 < s.acked1.high) ∧ Inv K s.acked1.settled := by
  have := floor_pos s.v
  unfold Pt.acked1
  split
  · refine ⟨?_, ?_, ?_⟩
    · unfold Inv at h; dsimp only [Pt.search, Pt.under0]; omega
    · left; rfl
    · unfold Pt.settled
      split
      · unfold Inv at *; dsimp only [Pt.search, Pt.under0, Pt.enters] at *; omega
      split
      · unfold Inv at *; dsimp only [Pt.search, Pt.under0, Pt.enters] at *; omega
      · unfold Inv at *; dsimp only [Pt.search, Pt.under0, Pt.enters] at *; omega
  split
  · split
    · refine ⟨?_, ?_, ?_⟩
      · unfold Inv at h; dsimp only [Pt.under0]; omega
      · unfold Inv at h; dsimp only [Pt.under0]; omega
      · unfold Pt.settled
        split
        · unfold Inv at *; dsimp only [Pt.under0, Pt.enters] at *; omega
        split
        · unfold Inv at *; dsimp only [Pt.under0, Pt.enters] at *; omega
        · unfold Inv at *; dsimp only [Pt.under0, Pt.enters] at *; omega
    · refine ⟨?_, ?_, ?_⟩
      · unfold Inv at h; dsimp only [Pt.under0]; omega
      · left; rfl
      · unfold Pt.settled
        split
        · unfold Inv at *; dsimp only [Pt.under0, Pt.enters] at *; omega
        split
        · unfold Inv at *; dsimp only [Pt.under0, Pt.enters] at *; omega
        · unfold Inv at *; dsimp only [Pt.under0, Pt.enters] at *; omega
  · refine ⟨?_, ?_, ?_⟩
    · unfold Inv at h; dsimp only [Pt.under0]; omega
    · left; rfl
    · unfold Pt.settled
      split
      · unfold Inv at *; dsimp only [Pt.under0, Pt.enters] at *; omega
      split
      · unfold Inv at *; dsimp only [Pt.under0, Pt.enters] at *; omega
      · unfold Inv at *; dsimp only [Pt.under0, Pt.enters] at *; omega
theorem Inv.acked {K p : Int} {s : Pt} (h : Inv K s) : Inv K (s.acked p).2 := by
  unfold Pt.acked
  split
  · exact h
  split
  · exact (h.acked1 (by unfold Inv at h; omega)).2.2
  · exact h
theorem Inv.tooBig {K p m : Int} {s : Pt} (h : Inv K s) : Inv K (s.tooBig p m).2 := by
  have hf := floor_pos s.v
  unfold Pt.tooBig
  split
  · exact h
  split
  · split
    · exact h
    split
    · exact h
    split
    · split
      · exact h
      split
      · unfold Inv at *; dsimp only [Pt.under0]; omega
      · exact h.drop (by unfold Inv at h; omega)
    · exact h.drop (by unfold Inv at h; omega)
  · exact h
theorem Inv.got {K m : Int} {s : Pt} (h : Inv K s) : Inv K (s.got m) := by
  unfold Pt.got; split
  · unfold Inv at *; dsimp only; omega
  · exact h
theorem counts_iff (s : Pt) (m : Int) : s.counts m = true ↔ (s.state = 2 ∨ s.state = 3) ∧ s.base < m ∧ m ≤ s.low := by
  unfold Pt.counts
  by_cases h2 : s.state = 2
  · rw [if_pos h2]; split
    · rw [decide_eq_true_iff]; omega
    · simp; omega
  · rw [if_neg h2]
    by_cases h3 : s.state = 3
    · rw [if_pos h3]; split
      · rw [decide_eq_true_iff]; omega
      · simp; omega
    · rw [if_neg h3]; simp; omega
theorem Inv.lost {K m : Int} {s : Pt} (h : Inv K s) : Inv K (s.lost m).2 := by
  unfold Pt.lost; split
  · split
    · unfold Inv at *; dsimp only; omega
    · unfold Inv at *; dsimp only [Pt.under0]; omega
  · exact h
end Go.Proofs.Ytmanojnhjhpokaa.PB
