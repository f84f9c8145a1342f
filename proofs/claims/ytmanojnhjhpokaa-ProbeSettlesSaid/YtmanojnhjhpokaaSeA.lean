/- The run of settle in plain Lean: what it does from round to round. Conditions: those of each theorem. -/
import Derived.Test.YtmanojnhjhpokaaWiA
namespace Go.Proofs.Ytmanojnhjhpokaa.PB
set_option linter.unusedVariables false
set_option linter.unusedSimpArgs false
/-- What settle comes to: the path, the last now, the number of probes (-1: more than so many); k: how many rounds are left. talk: is probe n answered by a message? -/
def srun (talk : Int → Bool) (m : Int) : Nat → Pt → Int → Int → Pt × Int × Int
  | 0, s, now, _ => (s, now, -1)
  | k + 1, s, now, n =>
    if (s.nextA now).1.1 = 0 then ((s.nextA now).2, now, n)
    else if (s.nextA now).1.1 ≤ m then srun talk m k ((s.nextA now).2.ackedA (s.nextA now).1.2.1 now).2 now (n + 1)
    else if talk (n + 1) = true then srun talk m k ((s.nextA now).2.tooBigA (s.nextA now).1.2.1 m now).2 now (n + 1)
    else srun talk m k ((s.nextA now).2.nextA (now + s.wait - 1)).2 (now + s.wait) (n + 1)
section
variable {K now : Int} {s : Pt}
theorem nextA_go (hn : s.now ≤ now) (hx : now ≤ 1099511627776) : s.nextA now = (((({ s with now := now } : Pt).next now).1.1, (({ s with now := now } : Pt).next now).1.2, 0), (({ s with now := now } : Pt).next now).2) := by
  have hl : ¬ s.late now := by unfold Pt.late; omega
  unfold Pt.nextA; rw [if_neg hl]
/-- A Next in its time: no error; a probe lies within the bounds, and is under way behind it. -/
structure Told (s : Pt) (T a b : Int) (t : Pt) : Prop where
  cfg : t.cfg = s.cfg
  now : t.now = T
  none : a = 0 ∨ (s.base ≤ a ∧ a ≤ s.most ∧ 0 < a ∧ 0 < t.unum ∧ t.unum = b ∧ t.usize = a ∧ t.uat = T)
  low : t.state = 2 ∨ t.state = 3 → t.low = s.low ∧ (s.state = 2 ∨ s.state = 3)
theorem told_uat {n : Int} {t : Pt} (h : 0 < (t.told n).1.1) : (t.told n).2.uat = n := by
  unfold Pt.told at *
  split
  · rfl
  split
  · rfl
  · rename_i h1 h2
    rw [if_neg h1, if_neg h2] at h
    exact absurd (show (0 : Int) < 0 from h) (by decide)
theorem next_uat {n : Int} {t : Pt} (h : 0 < (t.next n).1.1) : (t.next n).2.uat = n := by
  unfold Pt.next at *
  split
  · split
    · rename_i h1 h2
      rw [if_pos h1, if_pos h2] at h
      exact absurd (show (0 : Int) < 0 from h) (by decide)
    · rename_i h1 h2
      rw [if_pos h1, if_neg h2] at h
      exact told_uat h
  · rename_i h1
    rw [if_neg h1] at h
    exact told_uat h
theorem nextA_told (h : Inv K s) (hn : s.now ≤ now) (hx : now ≤ 1099511627776) : (s.nextA now).1.2.2 = 0 ∧ Told s now (s.nextA now).1.1 (s.nextA now).1.2.1 (s.nextA now).2 := by
  rw [nextA_go hn hx]
  have hi := h.at_ (n := now) (by omega) (by omega)
  have hN := next_says (n := now) hi rfl
  have hu := next_uat (n := now) (t := ({ s with now := now } : Pt))
  have hf := floor_pos s.v
  have hn0 : 0 ≤ s.number := by unfold Inv at h; omega
  refine ⟨rfl, hN.cfg, hN.now, ?_, hN.low⟩
  by_cases ha : 0 < (({ s with now := now } : Pt).next now).1.1
  · right
    obtain ⟨a1, a2, a3, a4, a5, a6⟩ := hN.yes ha
    have e1 : (({ s with now := now } : Pt).next now).1.2 = s.number + 1 := a1
    have e3 : (({ s with now := now } : Pt).next now).2.unum = s.number + 1 := a3
    exact ⟨a5, a6, ha, by rw [e3]; omega, by rw [e3, e1], a4, hu ha⟩
  · exact .inl (hN.no ha).1
/-- Asked again while the probe is waited for. -/
theorem nextA_wait (h : Inv K s) (hu : 0 < s.unum) (hn : s.uat = s.now) (hx : now + s.wait - 1 ≤ 1099511627776) (hw : s.now = now) (hw1 : 1 ≤ s.wait) : s.nextA (now + s.wait - 1) = ((0, 0, 0), { s with now := now + s.wait - 1 }) := by
  rw [nextA_go (by omega) hx]
  unfold Pt.next
  rw [if_pos (show 0 < ({ s with now := now + s.wait - 1 } : Pt).unum from hu), if_pos (show now + s.wait - 1 - s.uat < s.wait by omega)]
theorem ackedA_go {p : Int} (hn : s.now = now) (hx : now ≤ 1099511627776) : s.ackedA p now = (((s.acked p).1, 0), (s.acked p).2) := by
  subst hn
  have hl : ¬ s.late s.now := by unfold Pt.late; omega
  unfold Pt.ackedA; rw [if_neg hl]
theorem tooBigA_go {p m : Int} (hn : s.now = now) (hx : now ≤ 1099511627776) : s.tooBigA p m now = (((s.tooBig p m).1, 0), (s.tooBig p m).2) := by
  subst hn
  have hl : ¬ s.late s.now := by unfold Pt.late; omega
  unfold Pt.tooBigA; rw [if_neg hl]
end
end Go.Proofs.Ytmanojnhjhpokaa.PB
