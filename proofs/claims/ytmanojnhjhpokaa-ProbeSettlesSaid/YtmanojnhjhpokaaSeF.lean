/- A run of settle over a way that is narrower than what is known: it ends. Conditions: those of each theorem. -/
import Derived.Test.YtmanojnhjhpokaaSeE
namespace Go.Proofs.Ytmanojnhjhpokaa.PB
set_option linter.unusedVariables false
set_option linter.unusedSimpArgs false
/-- A search above a way of m bytes: no probe gets through; at most P more. -/
structure Nr (m : Int) (E : Pt) (P : Int) : Prop where
  st : E.state = 2
  un : E.unum = 0
  low : m < E.low
  hint : E.hsize = 0
  pot : (E.high = E.most + 1 ∧ ∃ b : Nat, E.most - E.low ≤ 2 ^ b ∧ (E.mtries + 1) + E.mtries * (1 + b) - E.tries ≤ P) ∨ (E.high ≤ E.most ∧ ∃ b : Nat, E.high - E.low ≤ 2 ^ b ∧ (E.mtries + 1) + E.mtries * b - E.tries ≤ P)
def NextN (m : Int) (E : Pt) (P : Int) : Prop := (E.state = 3 ∧ E.unum = 0 ∧ E.since = E.now) ∨ Nr m E P
section
variable {K m now P : Int} {E s : Pt}
theorem Nr.nums (hi : Inv K E) (h : Nr m E P) : E.low + 1 < E.high ∧ E.high ≤ E.most + 1 ∧ 1 ≤ E.mtries ∧ 0 ≤ E.tries ∧ E.tries < E.mtries ∧ 0 ≤ E.number ∧ 0 ≤ E.low := by
  have hs := h.st
  unfold Inv at hi
  omega
theorem nr_drop {now' : Int} (hi : Inv K E) (h : Nr m E P) : NextN m ({ sent E now with now := now' } : Pt).drop (P - 1) := by
  obtain ⟨n1, n2, n3, n4, n5, n7, n9⟩ := h.nums hi
  obtain ⟨q1, q2, q3⟩ := tried_cases hi h.st
  have hlo := h.low
  have hst := h.st
  unfold Pt.drop
  by_cases h1 : E.tries + 1 < E.mtries
  · rw [if_pos (show ({ sent E now with now := now' } : Pt).tries + 1 < ({ sent E now with now := now' } : Pt).mtries from h1)]
    right
    refine ⟨hst, rfl, hlo, h.hint, ?_⟩
    rcases h.pot with ⟨h1, b, hb, hP⟩ | ⟨h1, b, hb, hP⟩
    · exact .inl ⟨h1, b, hb, by show (E.mtries + 1) + E.mtries * (1 + b) - (E.tries + 1) ≤ P - 1; omega⟩
    · exact .inr ⟨h1, b, hb, by show (E.mtries + 1) + E.mtries * b - (E.tries + 1) ≤ P - 1; omega⟩
  rw [if_neg (show ¬ ({ sent E now with now := now' } : Pt).tries + 1 < ({ sent E now with now := now' } : Pt).mtries from h1), if_neg (show ¬ ({ sent E now with now := now' } : Pt).state = 1 by show ¬ E.state = 1; omega)]
  by_cases hd : E.tried.1 = E.low + 1
  · rw [if_pos (show ({ sent E now with now := now' } : Pt).usize = ({ sent E now with now := now' } : Pt).low + 1 from hd)]
    exact .inl ⟨rfl, rfl, rfl⟩
  rw [if_neg (show ¬ ({ sent E now with now := now' } : Pt).usize = ({ sent E now with now := now' } : Pt).low + 1 from hd)]
  right
  refine ⟨hst, rfl, hlo, rfl, ?_⟩
  rcases h.pot with ⟨h1', b, hb, hP⟩ | ⟨h1', b, hb, hP⟩
  · have ht := q2 h.hint h1'
    have hmul : E.mtries * (1 + (b : Int)) = E.mtries + E.mtries * b := by rw [Int.mul_add, Int.mul_one]
    rw [hmul] at hP
    refine .inr ⟨?_, b, ?_, ?_⟩
    · show E.tried.1 ≤ E.most; rw [ht]; exact Int.le_refl _
    · show E.tried.1 - E.low ≤ 2 ^ b; rw [ht]; exact hb
    · show (E.mtries + 1) + E.mtries * b - 0 ≤ P - 1; omega
  · have ht := q3 h.hint h1'
    obtain ⟨c, rfl, hz⟩ := pow_split hb (by omega)
    rw [hz] at hb
    have hmul : E.mtries * ((c + 1 : Nat) : Int) = E.mtries * (c : Int) + E.mtries := by rw [Int.natCast_add, Int.mul_add]; simp
    rw [hmul] at hP
    refine .inr ⟨?_, c, ?_, ?_⟩
    · show E.tried.1 ≤ E.most; rw [ht]; dsimp only; omega
    · show E.tried.1 - E.low ≤ 2 ^ c; rw [ht]; dsimp only; omega
    · show (E.mtries + 1) + E.mtries * c - 0 ≤ P - 1; omega
theorem Nr.pos (hi : Inv K E) (h : Nr m E P) : 1 ≤ P := by
  obtain ⟨n1, n2, n3, n4, n5, n7, n9⟩ := h.nums hi
  rcases h.pot with ⟨h1, b, hb, hP⟩ | ⟨h1, b, hb, hP⟩
  · have hmul : E.mtries * (1 + (b : Int)) = E.mtries + E.mtries * b := by rw [Int.mul_add, Int.mul_one]
    have hnn : 0 ≤ E.mtries * (b : Int) := Int.mul_nonneg (by omega) (by omega)
    omega
  · have hnn : 0 ≤ E.mtries * (b : Int) := Int.mul_nonneg (by omega) (by omega)
    omega
theorem NextN.idle (h : NextN m E P) (hi : Inv K E) : E.unum = 0 ∧ (E.state = 1 ∨ E.state = 2 ∨ E.now - E.since < E.raise) := by
  have hr : 1 ≤ E.raise := by unfold Inv at hi; omega
  rcases h with h | h
  · exact ⟨h.2.1, .inr (.inr (by rw [h.2.2]; omega))⟩
  · exact ⟨h.un, .inr (.inl h.st)⟩
/-- The run ends, with a number of probes. -/
theorem narrow_run (talk : Int → Bool) (m : Int) : ∀ (P : Nat) (k : Nat) (K : Int) (s : Pt) (now n : Int), P + 1 < k → Inv K s → s.now ≤ now → Ripe s now → NextN m (e2 s now) P → 0 ≤ n → now + 100 * (P + 2) ≤ 1099511627776 → s.wait ≤ 100 →
    ∃ (t : Pt) (T j : Int), srun talk m k s now n = (t, T, j) ∧ 0 ≤ j := by
  intro P
  induction P with
  | zero =>
    intro k K s now n hk hi hn hr hN h0 hx hw
    obtain ⟨k, rfl⟩ : ∃ q, k = q + 1 := ⟨k - 1, by omega⟩
    obtain ⟨a1, a2, a3, a4⟩ := e2_inv hi hn (by omega)
    rcases hN with hF | hS
    · exact ⟨_, _, _, srun_done hi hn (by omega) hr (.inl hF.1), h0⟩
    · have := hS.pos a1; omega
  | succ P ih =>
    intro k K s now n hk hi hn hr hN h0 hx hw
    obtain ⟨k, rfl⟩ : ∃ q, k = q + 1 := ⟨k - 1, by omega⟩
    obtain ⟨a1, a2, a3, a4⟩ := e2_inv hi hn (by omega)
    rcases hN with hF | hS
    · exact ⟨_, _, _, srun_done hi hn (by omega) hr (.inl hF.1), h0⟩
    have hst := srun_step (talk := talk) (m := m) (k := k) (n := n) hi hn (by omega) hr rfl (.inr hS.st)
    have hsi := sent_inv a1 (.inr hS.st) a3
    have hww : 1 ≤ s.wait := by unfold Inv at hi; omega
    have hP1 : ((P + 1 : Nat) : Int) - 1 = (P : Int) := by omega
    obtain ⟨n1, n2, n3, n4, n5, n7, n9⟩ := hS.nums a1
    have hlo := hS.low
    have htr := (tried_in a1).2 hS.st
    have hwe : (e2 s now).wait = s.wait := by
      have := a4
      unfold Pt.cfg at this; injection this
    have hu : 0 < (sent (e2 s now) now).unum := by show 0 < (e2 s now).number + 1; omega
    rw [if_neg (by omega)] at hst
    by_cases htk : talk (n + 1) = true
    · rw [if_pos htk] at hst
      have htb : ((sent (e2 s now) now).tooBig ((e2 s now).number + 1) m).2 = sent (e2 s now) now := by
        unfold Pt.tooBig
        rw [if_neg (show ¬ (sent (e2 s now) now).unum = 0 by show ¬ (e2 s now).number + 1 = 0; omega), if_pos (show (e2 s now).number + 1 = (sent (e2 s now) now).unum from rfl)]
        split
        · rfl
        split
        · rfl
        rw [if_pos (show (sent (e2 s now) now).state = 2 from hS.st), if_pos (show m < (sent (e2 s now) now).low from hlo)]
      rw [htb] at hst
      obtain ⟨k, rfl⟩ : ∃ q, k = q + 1 := ⟨k - 1, by omega⟩
      have hnx : (sent (e2 s now) now).nextA now = ((0, 0, 0), sent (e2 s now) now) := by
        rw [nextA_go (s := sent (e2 s now) now) (now := now) (by show (e2 s now).now ≤ now; omega) (by omega), same_now (sent (e2 s now) now) a3]
        unfold Pt.next
        rw [if_pos hu, if_pos (show now - (sent (e2 s now) now).uat < (sent (e2 s now) now).wait by show now - now < (e2 s now).wait; omega)]
      rw [hst, srun, hnx]
      exact ⟨_, _, _, rfl, by omega⟩
    · rw [if_neg htk] at hst
      have hN2 := nr_drop (now := now) (now' := now + s.wait) a1 hS
      rw [hP1] at hN2
      have hi2 : Inv (K + 1) ({ sent (e2 s now) now with now := now + s.wait - 1 } : Pt) := hsi.at_ (by show ¬ now + s.wait - 1 < (e2 s now).now; omega) (by omega)
      have hi3 : Inv (K + 1) ({ sent (e2 s now) now with now := now + s.wait } : Pt).drop := (hsi.at_ (n := now + s.wait) (by show ¬ now + s.wait < (e2 s now).now; omega) (by omega)).drop hu
      have he : e2 ({ sent (e2 s now) now with now := now + s.wait - 1 } : Pt) (now + s.wait) = ({ sent (e2 s now) now with now := now + s.wait } : Pt).drop := e2_silent' hu (hN2.idle hi3) _
      rw [hst]
      exact ih k (K + 1) _ (now + s.wait) (n + 1) (by omega) hi2 (by show now + s.wait - 1 ≤ now + s.wait; omega) (fun _ => by show (e2 s now).wait ≤ now + s.wait - now; omega) (by rw [he]; exact hN2) (by omega) (by omega) (by show (e2 s now).wait ≤ 100; omega)
end
end Go.Proofs.Ytmanojnhjhpokaa.PB
