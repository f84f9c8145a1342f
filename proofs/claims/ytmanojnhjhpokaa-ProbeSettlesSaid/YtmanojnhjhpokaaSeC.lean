/- A run of settle comes to its end, within so many probes, where the way lets it: plain Lean. Conditions: those of each theorem. -/
import Derived.Test.YtmanojnhjhpokaaSeA
namespace Go.Proofs.Ytmanojnhjhpokaa.PB
set_option linter.unusedVariables false
set_option linter.unusedSimpArgs false
/-- The path when the lost probe is told and the clock was looked at. -/
def e1 (s : Pt) (now : Int) : Pt := if 0 < s.unum then ({ s with now := now } : Pt).drop else { s with now := now }
def e2 (s : Pt) (now : Int) : Pt := (e1 s now).raised now
def Ripe (s : Pt) (now : Int) : Prop := 0 < s.unum → s.wait ≤ now - s.uat
theorem nextA_eff {s : Pt} {now : Int} (hn : s.now ≤ now) (hx : now ≤ 1099511627776) (hr : Ripe s now) : s.nextA now = ((((e2 s now).told now).1.1, ((e2 s now).told now).1.2, 0), ((e2 s now).told now).2) := by
  rw [nextA_go hn hx]
  have key : ({ s with now := now } : Pt).next now = (e2 s now).told now := by
    unfold Pt.next e2 e1
    by_cases hu : 0 < s.unum
    · rw [if_pos (show 0 < ({ s with now := now } : Pt).unum from hu), if_pos hu, if_neg (show ¬ now - ({ s with now := now } : Pt).uat < ({ s with now := now } : Pt).wait by have := hr hu; show ¬ now - s.uat < s.wait; omega)]
    · rw [if_neg (show ¬ 0 < ({ s with now := now } : Pt).unum from hu), if_neg hu]
  rw [key]
/-- A search that the way of m bytes leads. -/
structure Sr (m : Int) (E : Pt) : Prop where
  st : E.state = 2
  un : E.unum = 0
  low : E.low ≤ m
  high : m < E.high ∨ E.high = E.most + 1
  lo : E.losses = 0
/-- A path at its end over a way of m bytes. -/
structure Fin (m : Int) (E : Pt) : Prop where
  st : E.state = 3
  un : E.unum = 0
  low : E.low = min m E.most
  since : E.since = E.now
  lo : E.losses = 0
/-- At most P probes more. -/
def Pot (m : Int) (E : Pt) (P : Int) : Prop :=
  (E.hsize = 0 ∧ E.high = E.most + 1 ∧ ∃ b : Nat, E.most - E.low ≤ 2 ^ b ∧ (E.mtries + 1) + E.mtries * (1 + b) - E.tries ≤ P) ∨
  (E.hsize = 0 ∧ E.high ≤ E.most ∧ ∃ b : Nat, E.high - E.low ≤ 2 ^ b ∧ (E.mtries + 1) + E.mtries * b - E.tries ≤ P) ∨
  (E.hsize = m ∧ E.hheard = true ∧ 1 + E.mtries ≤ P) ∨
  (E.hsize = m + 1 ∧ E.hheard = false ∧ E.low = m ∧ E.mtries - E.tries ≤ P)
/-- Behind a probe. -/
def Next' (m : Int) (E : Pt) (P : Int) : Prop := Fin m E ∨ (Sr m E ∧ Pot m E P)
/-- The path with a probe under way. -/
def sent (E : Pt) (now : Int) : Pt := { E with number := E.number + 1, unum := E.number + 1, usize := E.tried.1, uat := now, uheard := E.tried.2 }
section
variable {K m now P : Int} {E : Pt}
theorem told_sent (h : E.state = 1 ∨ E.state = 2) : E.told now = ((E.tried.1, E.number + 1), sent E now) := by
  unfold Pt.told sent
  by_cases h1 : E.state = 1
  · rw [if_pos h1]
  · rw [if_neg h1, if_pos (h.resolve_left h1)]
theorem pow_split {b : Nat} {D : Int} (h : D ≤ 2 ^ b) (h2 : 2 ≤ D) : ∃ c : Nat, b = c + 1 ∧ (2 : Int) ^ b = 2 * 2 ^ c := by
  cases b with
  | zero => simp at h; omega
  | succ c => exact ⟨c, rfl, by rw [Int.pow_succ]; omega⟩
theorem tried_cases (hi : Inv K E) (hs : E.state = 2) : (0 < E.hsize → E.tried = (E.hsize, E.hheard)) ∧ (E.hsize = 0 → E.high = E.most + 1 → E.tried = (E.most, false)) ∧ (E.hsize = 0 → E.high ≤ E.most → E.tried = (E.low + (E.high - E.low) / 2, false)) := by
  have hlh : E.low + 1 < E.high := by unfold Inv at hi; omega
  clear hi
  unfold Pt.tried
  rw [if_neg (by omega)]
  refine ⟨fun h => by rw [if_pos h], fun h k => by rw [if_neg (by omega), if_pos k], fun h k => ?_⟩
  rw [if_neg (by omega), if_neg (by omega), Int.tdiv_eq_ediv_of_nonneg (by omega)]
/-- The least that a search asks of its numbers. -/
theorem Sr.nums (hi : Inv K E) (h : Sr m E) : E.low + 1 < E.high ∧ E.high ≤ E.most + 1 ∧ 1 ≤ E.mtries ∧ 0 ≤ E.tries ∧ E.tries < E.mtries ∧ floorOf E.v ≤ E.low ∧ 0 ≤ E.number ∧ (E.hsize = 0 ∨ (E.low < E.hsize ∧ E.hsize < E.high)) ∧ 0 ≤ E.low := by
  have hs := h.st
  have := floor_pos E.v
  unfold Inv at hi
  omega
/-- The probe got through. -/
theorem step_ack (hi : Inv K E) (h : Sr m E) (hp : Pot m E P) (ha : E.tried.1 ≤ m) (hn : E.now = now) : Next' m ((sent E now).acked (E.number + 1)).2 (P - 1) := by
  obtain ⟨n1, n2, n3, n4, n5, n6, n7, n8, n9⟩ := h.nums hi
  obtain ⟨q1, q2, q3⟩ := tried_cases hi h.st
  have hlo := h.low
  have hhi := h.high
  have hst := h.st
  have hfl := floor_pos E.v
  -- what the acknowledgment makes of it
  have hacked : ((sent E now).acked (E.number + 1)).2 = (sent E now).acked1.settled := by
    unfold Pt.acked
    rw [if_neg (show ¬ (sent E now).unum = 0 by show ¬ E.number + 1 = 0; omega), if_pos (show E.number + 1 = (sent E now).unum from rfl)]
  rw [hacked]
  -- to be at its end
  have fin : ∀ t : Pt, t.unum = 0 → t.low = min m t.most → t.losses = 0 → t.now = now → (t.low = t.most ∨ t.high = t.low + 1) → Next' m t.settled (P - 1) := by
    intro t a b c d e
    left
    unfold Pt.settled
    by_cases e1 : t.low = t.most
    · rw [if_pos e1]; exact ⟨rfl, a, b, rfl, c⟩
    · rw [if_neg e1, if_pos (e.resolve_left e1)]; exact ⟨rfl, a, b, rfl, c⟩
  have go : ∀ t : Pt, Sr m t → Pot m t (P - 1) → ¬ t.low = t.most → ¬ t.high = t.low + 1 → Next' m t.settled (P - 1) := by
    intro t a b c d
    right
    unfold Pt.settled
    rw [if_neg c, if_neg d]
    exact ⟨a, b⟩
  have hns : ¬ (sent E now).state = 1 := by show ¬ E.state = 1; omega
  have plain : (sent E now).uheard = false → (sent E now).acked1 = { (sent E now).under0 0 with losses := 0, low := (sent E now).usize, hsize := 0, hheard := false } := fun e => by
    unfold Pt.acked1
    rw [if_neg hns, if_neg (by rw [e]; decide)]
  rcases hp with ⟨h0, h1, b, hb, hP⟩ | ⟨h0, h1, b, hb, hP⟩ | ⟨h0, h1, hP⟩ | ⟨h0, h1, h2, hP⟩
  · have ht := q2 h0 h1
    rw [ht] at ha
    dsimp only at ha
    rw [plain (by show E.tried.2 = false; rw [ht])]
    refine fin _ rfl ?_ rfl hn (.inl ?_)
    · show E.tried.1 = min m E.most
      rw [ht]; dsimp only; omega
    · show E.tried.1 = E.most
      rw [ht]
  · have ht := q3 h0 h1
    rw [ht] at ha
    dsimp only at ha
    obtain ⟨c, rfl, hz⟩ := pow_split hb (by omega)
    rw [hz] at hb
    have hmul : E.mtries * ((c + 1 : Nat) : Int) = E.mtries * (c : Int) + E.mtries := by rw [Int.natCast_add, Int.mul_add]; simp
    rw [hmul] at hP
    rw [plain (by show E.tried.2 = false; rw [ht])]
    have hm : m < E.high := by omega
    by_cases hd : E.high = E.low + (E.high - E.low) / 2 + 1
    · refine fin _ rfl ?_ rfl hn (.inr ?_)
      · show E.tried.1 = min m E.most
        rw [ht]; dsimp only; omega
      · show E.high = E.tried.1 + 1
        rw [ht]; exact hd
    · refine go _ ⟨hst, rfl, ?_, .inl hm, rfl⟩ (.inr (.inl ⟨rfl, h1, c, ?_, ?_⟩)) ?_ ?_
      · show E.tried.1 ≤ m; rw [ht]; exact ha
      · show E.high - E.tried.1 ≤ 2 ^ c; rw [ht]; dsimp only; omega
      · show (E.mtries + 1) + E.mtries * c - 0 ≤ P - 1; omega
      · show ¬ E.tried.1 = E.most; rw [ht]; dsimp only; omega
      · show ¬ E.high = E.tried.1 + 1; rw [ht]; exact hd
  · have ht := q1 (by omega)
    rw [ht] at ha
    dsimp only at ha
    have heard : (sent E now).acked1 = if E.hsize < E.high - 1 then { (sent E now).under0 0 with losses := 0, low := (sent E now).usize, hsize := (sent E now).usize + 1, hheard := false } else { (sent E now).under0 0 with losses := 0, low := (sent E now).usize, hsize := 0, hheard := false } := by
      unfold Pt.acked1
      rw [if_neg hns, if_pos (show (sent E now).uheard = true by show E.tried.2 = true; rw [ht]; exact h1)]
      have : (sent E now).usize = E.hsize := by show E.tried.1 = E.hsize; rw [ht]
      rw [this]; rfl
    rw [heard]
    by_cases hd : E.hsize < E.high - 1
    · rw [if_pos hd]
      by_cases he : E.hsize = E.most
      · refine fin _ rfl ?_ rfl hn (.inl ?_)
        · show E.tried.1 = min m E.most; rw [ht]; dsimp only; omega
        · show E.tried.1 = E.most; rw [ht]; exact he
      · refine go _ ⟨hst, rfl, ?_, .inl (by show m < E.high; omega), rfl⟩ (.inr (.inr (.inr ⟨?_, rfl, ?_, ?_⟩))) ?_ ?_
        · show E.tried.1 ≤ m; rw [ht]; exact ha
        · show E.tried.1 + 1 = m + 1; rw [ht]; dsimp only; omega
        · show E.tried.1 = m; rw [ht]; exact h0
        · show E.mtries - 0 ≤ P - 1; omega
        · show ¬ E.tried.1 = E.most; rw [ht]; exact he
        · show ¬ E.high = E.tried.1 + 1; rw [ht]; dsimp only; omega
    · rw [if_neg hd]
      refine fin _ rfl ?_ rfl hn (.inr ?_)
      · show E.tried.1 = min m E.most; rw [ht]; dsimp only; omega
      · show E.high = E.tried.1 + 1; rw [ht]; dsimp only; omega
  · have ht := q1 (by omega)
    rw [ht] at ha
    dsimp only at ha
    omega
/-- The probe is lost. -/
theorem step_drop {now' : Int} (hi : Inv K E) (h : Sr m E) (hp : Pot m E P) (ha : ¬ E.tried.1 ≤ m) : Next' m ({ sent E now with now := now' } : Pt).drop (P - 1) := by
  obtain ⟨n1, n2, n3, n4, n5, n6, n7, n8, n9⟩ := h.nums hi
  obtain ⟨q1, q2, q3⟩ := tried_cases hi h.st
  have hlo := h.low
  have hhi := h.high
  have hst := h.st
  have hfl := floor_pos E.v
  unfold Pt.drop
  by_cases h1 : E.tries + 1 < E.mtries
  · rw [if_pos (show ({ sent E now with now := now' } : Pt).tries + 1 < ({ sent E now with now := now' } : Pt).mtries from h1)]
    right
    refine ⟨⟨hst, rfl, hlo, hhi, h.lo⟩, ?_⟩
    rcases hp with ⟨h0, h1, b, hb, hP⟩ | ⟨h0, h1, b, hb, hP⟩ | ⟨h0, h1, hP⟩ | ⟨h0, h1, h2, hP⟩
    · exact .inl ⟨h0, h1, b, hb, by show (E.mtries + 1) + E.mtries * (1 + b) - (E.tries + 1) ≤ P - 1; omega⟩
    · exact .inr (.inl ⟨h0, h1, b, hb, by show (E.mtries + 1) + E.mtries * b - (E.tries + 1) ≤ P - 1; omega⟩)
    · have ht := q1 (by omega)
      rw [ht] at ha; dsimp only at ha; omega
    · exact .inr (.inr (.inr ⟨h0, h1, h2, by show E.mtries - (E.tries + 1) ≤ P - 1; omega⟩))
  rw [if_neg (show ¬ ({ sent E now with now := now' } : Pt).tries + 1 < ({ sent E now with now := now' } : Pt).mtries from h1), if_neg (show ¬ ({ sent E now with now := now' } : Pt).state = 1 by show ¬ E.state = 1; omega)]
  by_cases hd : E.tried.1 = E.low + 1
  · rw [if_pos (show ({ sent E now with now := now' } : Pt).usize = ({ sent E now with now := now' } : Pt).low + 1 from hd)]
    left
    exact ⟨rfl, rfl, by show E.low = min m E.most; omega, rfl, h.lo⟩
  rw [if_neg (show ¬ ({ sent E now with now := now' } : Pt).usize = ({ sent E now with now := now' } : Pt).low + 1 from hd)]
  right
  rcases hp with ⟨h0, h1', b, hb, hP⟩ | ⟨h0, h1', b, hb, hP⟩ | ⟨h0, h1', hP⟩ | ⟨h0, h1', h2, hP⟩
  · have ht := q2 h0 h1'
    rw [ht] at ha hd
    dsimp only at ha hd
    have hmul : E.mtries * (1 + (b : Int)) = E.mtries + E.mtries * b := by rw [Int.mul_add, Int.mul_one]
    rw [hmul] at hP
    refine ⟨⟨hst, rfl, hlo, .inl (by show m < E.tried.1; rw [ht]; dsimp only; omega), h.lo⟩, .inr (.inl ⟨rfl, ?_, b, ?_, ?_⟩)⟩
    · show E.tried.1 ≤ E.most; rw [ht]; exact Int.le_refl _
    · show E.tried.1 - E.low ≤ 2 ^ b; rw [ht]; exact hb
    · show (E.mtries + 1) + E.mtries * b - 0 ≤ P - 1; omega
  · have ht := q3 h0 h1'
    rw [ht] at ha hd
    dsimp only at ha hd
    obtain ⟨c, rfl, hz⟩ := pow_split hb (by omega)
    rw [hz] at hb
    have hmul : E.mtries * ((c + 1 : Nat) : Int) = E.mtries * (c : Int) + E.mtries := by rw [Int.natCast_add, Int.mul_add]; simp
    rw [hmul] at hP
    refine ⟨⟨hst, rfl, hlo, .inl (by show m < E.tried.1; rw [ht]; dsimp only; omega), h.lo⟩, .inr (.inl ⟨rfl, ?_, c, ?_, ?_⟩)⟩
    · show E.tried.1 ≤ E.most; rw [ht]; dsimp only; omega
    · show E.tried.1 - E.low ≤ 2 ^ c; rw [ht]; dsimp only; omega
    · show (E.mtries + 1) + E.mtries * c - 0 ≤ P - 1; omega
  · have ht := q1 (by omega)
    rw [ht] at ha; dsimp only at ha; omega
  · have ht := q1 (by omega)
    rw [ht] at hd; dsimp only at hd; omega
/-- A message tells its size. -/
theorem step_too (hi : Inv K E) (h : Sr m E) (hp : Pot m E P) (ha : ¬ E.tried.1 ≤ m) (hn : E.now = now) : Next' m ((sent E now).tooBig (E.number + 1) m).2 (P - 1) := by
  obtain ⟨n1, n2, n3, n4, n5, n6, n7, n8, n9⟩ := h.nums hi
  obtain ⟨q1, q2, q3⟩ := tried_cases hi h.st
  have hlo := h.low
  have hhi := h.high
  have hst := h.st
  have hfl := floor_pos E.v
  unfold Pt.tooBig
  rw [if_neg (show ¬ (sent E now).unum = 0 by show ¬ E.number + 1 = 0; omega), if_pos (show E.number + 1 = (sent E now).unum from rfl), if_neg (show ¬ m < floorOf (sent E now).v by show ¬ m < floorOf E.v; omega), if_neg (show ¬ (sent E now).usize ≤ m from ha), if_pos (show (sent E now).state = 2 from hst), if_neg (show ¬ m < (sent E now).low by show ¬ m < E.low; omega)]
  by_cases hl : E.low < m
  · rw [if_pos (show (sent E now).low < m from hl)]
    right
    have hm : m < E.high := by
      rcases hhi with e | e
      · exact e
      · have ht := (tried_in hi).2 hst
        omega
    refine ⟨⟨hst, rfl, hlo, .inl hm, h.lo⟩, .inr (.inr (.inl ⟨rfl, rfl, ?_⟩))⟩
    show 1 + E.mtries ≤ P - 1
    rcases hp with ⟨h0, h1, b, hb, hP⟩ | ⟨h0, h1, b, hb, hP⟩ | ⟨h0, h1, hP⟩ | ⟨h0, h1, h2, hP⟩
    · have hmul : E.mtries * (1 + (b : Int)) = E.mtries + E.mtries * b := by rw [Int.mul_add, Int.mul_one]
      have hnn : 0 ≤ E.mtries * (b : Int) := Int.mul_nonneg (by omega) (by omega)
      omega
    · obtain ⟨c, rfl, hz⟩ := pow_split hb (by omega)
      have hmul : E.mtries * ((c + 1 : Nat) : Int) = E.mtries * (c : Int) + E.mtries := by rw [Int.natCast_add, Int.mul_add]; simp
      have hnn : 0 ≤ E.mtries * (c : Int) := Int.mul_nonneg (by omega) (by omega)
      omega
    · have ht := q1 (by omega)
      rw [ht] at ha; dsimp only at ha; omega
    · omega
  · rw [if_neg (show ¬ (sent E now).low < m from hl)]
    have := step_drop (now := now) (now' := E.now) hi h hp ha
    exact this
end
end Go.Proofs.Ytmanojnhjhpokaa.PB
