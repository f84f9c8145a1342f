/- The program's path and the document's answer alike and stay alike, whatever is called: plain Lean, no program. -/
import Derived.Test.YtmanojnhjhpokaaRD
import Derived.Test.YtmanojnhjhpokaaPI
namespace Go.Proofs.Ytmanojnhjhpokaa.PB
set_option linter.unusedVariables false
set_option linter.unusedSimpArgs false
section
variable {K n : Int} {s : Pt} {r : Rt}
theorem settle_yes (q : Rt) (h : q.low = q.most ∨ q.high = q.low + 1) : q.settle n = { q with st := 3, since := n } := by
  unfold Rt.settle
  by_cases h1 : q.low = q.most
  · rw [if_pos h1]
  · rw [if_neg h1, if_pos (h.resolve_left h1)]
theorem settle_no (q : Rt) (h1 : ¬ q.low = q.most) (h2 : ¬ q.high = q.low + 1) : q.settle n = q := by
  unfold Rt.settle
  rw [if_neg h1, if_neg h2]
theorem Sim.size (h : Sim s r) : r.size = s.size := by
  unfold Rt.size Pt.size
  rw [h.st, h.cfg.2.1, h.cfg.1, h.low]
theorem Sim.at_ (h : Sim s r) (n : Int) : Sim ({ s with now := n } : Pt) (r.at' n) :=
  ⟨h.cfg, h.st, h.low, h.high, h.hint, h.told, h.tries, h.is, h.under, h.heard, h.losses, h.since, rfl, h.given⟩
theorem Sim.late (h : Sim s r) : r.late n ↔ s.late n := by unfold Rt.late Pt.late; rw [h.last]
theorem Sim.drop (h : Sim s r) (hi : Inv K s) (hu : 0 < s.unum) (hn : s.now = n) : Sim s.drop (r.lostU n) := by
  obtain ⟨u1, u2, u3⟩ := h.under hu
  have hl : s.state = 2 → s.low < s.most := fun e => by unfold Inv at hi; omega
  have hst : s.state = 1 ∨ s.state = 2 := by unfold Inv at hi; omega
  have ht : r.tries = s.tries := h.tries
  have hmt : r.mtries = s.mtries := h.cfg.2.2.2.1
  unfold Pt.drop Rt.lostU
  rw [ht, hmt]
  by_cases h1 : s.tries + 1 < s.mtries
  · rw [if_pos h1, if_pos h1]
    exact ⟨h.cfg, h.st, h.low, h.high, h.hint, h.told, by show r.tries + 1 = s.tries + 1; rw [ht], rfl, fun h => absurd h (by show ¬ (0 : Int) < 0; decide), fun h => absurd h (by show ¬ (0 : Int) < 0; decide), h.losses, h.since, h.last, h.given⟩
  rw [if_neg h1, if_neg h1, h.st]
  by_cases h2 : s.state = 1
  · rw [if_pos h2, if_pos h2]
    exact ⟨h.cfg, rfl, h.low, h.high, h.hint, h.told, rfl, rfl, fun h => absurd h (by show ¬ (0 : Int) < 0; decide), fun h => absurd h (by show ¬ (0 : Int) < 0; decide), h.losses, hn.symm, h.last, h.given⟩
  rw [if_neg h2, if_neg h2]
  have hs2 : s.state = 2 := by omega
  have hlm := hl hs2
  have hlow := h.low
  have hmo := h.cfg.2.2.1
  by_cases h3 : s.usize = s.low + 1
  · rw [if_pos h3, settle_yes ({ r.lost1 with high := r.usize, hint := 0 } : Rt) (.inr (show r.usize = r.low + 1 by omega))]
    exact ⟨h.cfg, rfl, h.low, u2, rfl, fun h => absurd h (by show ¬ (0 : Int) < 0; decide), rfl, rfl, fun h => absurd h (by show ¬ (0 : Int) < 0; decide), fun h => absurd h (by show ¬ (0 : Int) < 0; decide), h.losses, hn.symm, h.last, h.given⟩
  · rw [if_neg h3, settle_no ({ r.lost1 with high := r.usize, hint := 0 } : Rt) (show ¬ r.low = r.most by omega) (show ¬ r.usize = r.low + 1 by omega)]
    exact ⟨h.cfg, h.st, h.low, u2, rfl, fun h => absurd h (by show ¬ (0 : Int) < 0; decide), rfl, rfl, fun h => absurd h (by show ¬ (0 : Int) < 0; decide), fun h => absurd h (by show ¬ (0 : Int) < 0; decide), h.losses, h.since, h.last, h.given⟩
theorem Sim.raised (h : Sim s r) (hi : Inv K s) (hu : s.unum = 0) : Sim (s.raised n) ((r.stepB n).stepC n) := by
  obtain ⟨c1, c2, c3, c4, c5, c6, c7⟩ := h.cfg
  have e1 := h.st
  have e2 := h.low
  have e3 := h.since
  have hz : ¬ 0 < s.unum := by omega
  unfold Pt.raised
  by_cases h1 : s.raise ≤ n - s.since
  · rw [if_pos h1]
    by_cases h3 : s.state = 3
    · rw [if_pos h3]
      by_cases h4 : s.low < s.most
      · rw [if_pos h4]
        have hb : r.stepB n = { r with st := 2, high := r.most + 1, hint := 0 } := by unfold Rt.stepB; rw [if_pos (by omega)]
        have hc : (r.stepB n).stepC n = { r with st := 2, high := r.most + 1, hint := 0 } := by rw [hb]; unfold Rt.stepC; rw [if_neg (fun k => by have : (2 : Int) = 4 := k.1; omega)]
        rw [hc]
        exact ⟨h.cfg, rfl, h.low, by show r.most + 1 = s.most + 1; rw [c3], rfl, fun h => absurd h (by show ¬ (0 : Int) < 0; decide), h.tries, h.is, fun k => absurd k hz, fun k => absurd k hz, h.losses, h.since, h.last, h.given⟩
      · rw [if_neg h4]
        have hb : r.stepB n = r := by unfold Rt.stepB; rw [if_neg (by omega)]
        have hc : (r.stepB n).stepC n = r := by rw [hb]; unfold Rt.stepC; rw [if_neg (by omega)]
        rw [hc]; exact h
    · rw [if_neg h3]
      have hb : r.stepB n = r := by unfold Rt.stepB; rw [if_neg (by omega)]
      rw [hb]
      by_cases h4 : s.state = 4
      · rw [if_pos h4]
        unfold Rt.stepC
        rw [if_pos (by omega)]
        exact ⟨h.cfg, rfl, h.low, h.high, h.hint, h.told, h.tries, h.is, fun k => absurd k hz, fun k => absurd k hz, h.losses, h.since, h.last, h.given⟩
      · rw [if_neg h4]
        unfold Rt.stepC
        rw [if_neg (by omega)]; exact h
  · rw [if_neg h1]
    have hb : r.stepB n = r := by unfold Rt.stepB; rw [if_neg (by omega)]
    have hc : (r.stepB n).stepC n = r := by rw [hb]; unfold Rt.stepC; rw [if_neg (by omega)]
    rw [hc]; exact h
theorem Sim.tried (h : Sim s r) : r.trial = s.tried.1 := by
  obtain ⟨c1, c2, c3, c4, c5, c6, c7⟩ := h.cfg
  unfold Rt.trial Pt.tried
  rw [h.st, c2, h.hint, h.high, c3, h.low]
  split
  · rfl
  split
  · rfl
  split
  · rfl
  · rfl
theorem Sim.told_ (h : Sim s r) (hi : Inv K s) (hu : s.unum = 0) : Sim (s.told n).2 (r.tell n).2 ∧ (r.tell n).1 = (s.told n).1 := by
  have hst : s.state = 1 ∨ s.state = 2 ∨ s.state = 3 ∨ s.state = 4 := by unfold Inv at hi; omega
  have hnn : 0 ≤ s.number := by unfold Inv at hi; omega
  have hh : s.hsize = 0 ∨ 0 < s.hsize := by unfold Inv at hi; have := floor_pos s.v; omega
  have ht := tried_in hi
  have hpos : s.state = 2 → 0 < s.tried.1 := fun e => by have := ht.2 e; unfold Inv at hi; omega
  have e1 := h.st
  unfold Rt.tell Pt.told
  by_cases h1 : s.state = 1
  · rw [if_neg (show ¬ (r.st = 3 ∨ r.st = 4) by omega), if_pos h1]
    refine ⟨⟨h.cfg, h.st, h.low, h.high, h.hint, h.told, h.tries, ?_, fun _ => ⟨?_, h.tried, rfl⟩, fun _ e => ?_, h.losses, h.since, h.last, ?_⟩, ?_⟩
    · show true = decide (0 < s.number + 1)
      exact (decide_eq_true (by omega)).symm
    · show r.given + 1 = s.number + 1; rw [h.given]
    · have e : s.state = 2 := e; omega
    · show r.given + 1 = s.number + 1; rw [h.given]
    · show (r.trial, r.given + 1) = (s.tried.1, s.number + 1); rw [h.tried, h.given]
  rw [if_neg h1]
  by_cases h2 : s.state = 2
  · rw [if_neg (show ¬ (r.st = 3 ∨ r.st = 4) by omega), if_pos h2]
    refine ⟨⟨h.cfg, h.st, h.low, h.high, h.hint, h.told, h.tries, ?_, fun _ => ⟨?_, h.tried, rfl⟩, fun _ e => ?_, h.losses, h.since, h.last, ?_⟩, ?_⟩
    · show true = decide (0 < s.number + 1)
      exact (decide_eq_true (by omega)).symm
    · show r.given + 1 = s.number + 1; rw [h.given]
    · show s.tried.2 = true ↔ (r.hint = s.tried.1 ∧ r.told = true)
      have hp := hpos h2
      rw [h.hint]
      unfold Pt.tried at hp ⊢
      rw [if_neg h1] at hp ⊢
      by_cases h3 : 0 < s.hsize
      · rw [if_pos h3, h.told h3]; simp
      · rw [if_neg h3] at hp ⊢
        have h0 : s.hsize = 0 := by omega
        rw [h0]
        split
        · rename_i h4
          rw [if_pos h4] at hp
          dsimp only at hp ⊢
          constructor
          · intro e; cases e
          · intro e; omega
        · rename_i h4
          rw [if_neg h4] at hp
          dsimp only at hp ⊢
          constructor
          · intro e; cases e
          · intro e; omega
    · show r.given + 1 = s.number + 1; rw [h.given]
    · show (r.trial, r.given + 1) = (s.tried.1, s.number + 1); rw [h.tried, h.given]
  rw [if_neg h2, if_pos (show r.st = 3 ∨ r.st = 4 by omega)]
  exact ⟨h, rfl⟩
theorem Sim.next (h : Sim s r) (hi : Inv K s) (hn : s.now = n) : Sim (s.next n).2 (r.next n).2 ∧ (r.next n).1 = (s.next n).1 := by
  have his := h.is
  have hw := h.cfg.2.2.2.2.2.1
  unfold Pt.next Rt.next
  by_cases hu : 0 < s.unum
  · obtain ⟨u1, u2, u3⟩ := h.under hu
    have hit : r.is = true := by rw [his]; exact decide_eq_true hu
    rw [if_pos hu]
    by_cases h2 : n - s.uat < s.wait
    · rw [if_pos h2, if_pos ⟨hit, by omega⟩]; exact ⟨h, rfl⟩
    · rw [if_neg h2, if_neg (fun k => h2 (by have := k.2; omega))]
      have ha : r.stepA n = r.lostU n := by unfold Rt.stepA; rw [if_pos hit]
      rw [ha]
      have hd := h.drop hi hu hn
      have hdi := hi.drop hu
      exact (hd.raised (n := n) hdi (drop_unum s)).told_ (hdi.raised (drop_unum s)) (raised_unum (drop_unum s))
  · have hif : ¬ r.is = true := by rw [his]; simpa using hu
    have hz : s.unum = 0 := by unfold Inv at hi; omega
    rw [if_neg hu, if_neg (fun k => hif k.1)]
    have ha : r.stepA n = r := by unfold Rt.stepA; rw [if_neg hif]
    rw [ha]
    exact (h.raised (n := n) hi hz).told_ (hi.raised hz) (raised_unum hz)
theorem Sim.settled (h : Sim s r) (hu : s.unum = 0) (hn : s.now = n) : Sim s.settled (r.settle n) := by
  have hz : ¬ 0 < s.unum := by omega
  have e1 := h.low
  have e2 := h.high
  have e3 := h.cfg.2.2.1
  unfold Pt.settled
  by_cases h1 : s.low = s.most
  · rw [if_pos h1, settle_yes r (.inl (by omega))]
    exact ⟨h.cfg, rfl, h.low, h.high, h.hint, h.told, h.tries, h.is, fun k => absurd k hz, fun k => absurd k hz, h.losses, hn.symm, h.last, h.given⟩
  rw [if_neg h1]
  by_cases h2 : s.high = s.low + 1
  · rw [if_pos h2, settle_yes r (.inr (by omega))]
    exact ⟨h.cfg, rfl, h.low, h.high, h.hint, h.told, h.tries, h.is, fun k => absurd k hz, fun k => absurd k hz, h.losses, hn.symm, h.last, h.given⟩
  · rw [if_neg h2, settle_no r (by omega) (by omega)]; exact h
theorem Sim.acked (h : Sim s r) (hi : Inv K s) (hn : s.now = n) (p : Int) : Sim (s.acked p).2 (r.acked p n).2 ∧ (r.acked p n).1 = (s.acked p).1 := by
  have his := h.is
  have hst : 0 < s.unum → s.state = 1 ∨ s.state = 2 := fun e => by unfold Inv at hi; omega
  have hu0 : 0 ≤ s.unum := by unfold Inv at hi; omega
  have hus : 0 ≤ s.usize := by unfold Inv at hi; omega
  have no : ∀ {t : Pt}, (0 : Int) < 0 → False := fun h => by omega
  unfold Pt.acked Rt.acked
  by_cases hz : s.unum = 0
  · have hif : ¬ r.is = true := by rw [his]; simp; omega
    rw [if_pos hz, if_neg (fun k => hif k.1)]; exact ⟨h, rfl⟩
  rw [if_neg hz]
  have hu : 0 < s.unum := by omega
  obtain ⟨u1, u2, u3⟩ := h.under hu
  have hit : r.is = true := by rw [his]; exact decide_eq_true hu
  by_cases hp : p = s.unum
  · rw [if_pos hp, if_pos ⟨hit, by omega⟩]
    refine ⟨?_, rfl⟩
    show Sim s.acked1.settled _
    unfold Pt.acked1
    rw [h.st]
    by_cases h1 : s.state = 1
    · rw [if_pos h1, if_pos h1]
      refine Sim.settled ?_ rfl hn
      exact ⟨h.cfg, rfl, h.cfg.2.1, by show r.most + 1 = s.most + 1; rw [h.cfg.2.2.1], rfl, fun h => absurd h (by show ¬ (0 : Int) < 0; decide), rfl, rfl, fun h => absurd h (by show ¬ (0 : Int) < 0; decide), fun h => absurd h (by show ¬ (0 : Int) < 0; decide), rfl, h.since, h.last, h.given⟩
    rw [if_neg h1, if_neg h1]
    have h2 : s.state = 2 := by have := hst hu; omega
    have hh := h.heard hu h2
    by_cases h3 : s.uheard = true
    · obtain ⟨g1, g2⟩ := hh.1 h3
      rw [if_pos h3]
      by_cases h4 : s.usize < s.high - 1
      · rw [if_pos h4, if_pos ⟨by omega, g2, by have := h.high; omega⟩]
        refine Sim.settled ?_ rfl hn
        exact ⟨h.cfg, h.st, u2, h.high, by show r.usize + 1 = s.usize + 1; rw [u2], fun _ => rfl, rfl, rfl, fun h => absurd h (by show ¬ (0 : Int) < 0; decide), fun h => absurd h (by show ¬ (0 : Int) < 0; decide), rfl, h.since, h.last, h.given⟩
      · rw [if_neg h4, if_neg (fun k => h4 (by have := k.2.2; have := h.high; omega))]
        refine Sim.settled ?_ rfl hn
        exact ⟨h.cfg, h.st, u2, h.high, rfl, fun h => absurd h (by show ¬ (0 : Int) < 0; decide), rfl, rfl, fun h => absurd h (by show ¬ (0 : Int) < 0; decide), fun h => absurd h (by show ¬ (0 : Int) < 0; decide), rfl, h.since, h.last, h.given⟩
    · rw [if_neg h3, if_neg (fun k => h3 (hh.2 ⟨by omega, k.2.1⟩))]
      refine Sim.settled ?_ rfl hn
      exact ⟨h.cfg, h.st, u2, h.high, rfl, fun h => absurd h (by show ¬ (0 : Int) < 0; decide), rfl, rfl, fun h => absurd h (by show ¬ (0 : Int) < 0; decide), fun h => absurd h (by show ¬ (0 : Int) < 0; decide), rfl, h.since, h.last, h.given⟩
  · rw [if_neg hp, if_neg (fun k => hp (by omega))]; exact ⟨h, rfl⟩
theorem Sim.tooBig (h : Sim s r) (hi : Inv K s) (hn : s.now = n) (p m : Int) : Sim (s.tooBig p m).2 (r.tooBig p m n).2 ∧ (r.tooBig p m n).1 = (s.tooBig p m).1 := by
  have his := h.is
  have hst : 0 < s.unum → s.state = 1 ∨ s.state = 2 := fun e => by unfold Inv at hi; omega
  have hu0 : 0 ≤ s.unum := by unfold Inv at hi; omega
  unfold Pt.tooBig Rt.tooBig
  by_cases hz : s.unum = 0
  · have hif : ¬ r.is = true := by rw [his]; simp; omega
    rw [if_pos hz, if_neg (show ¬ (r.is = true ∧ r.number = p ∧ floorOf r.v ≤ m ∧ m < r.usize) from fun k => hif k.1)]; exact ⟨h, rfl⟩
  rw [if_neg hz]
  have hu : 0 < s.unum := by omega
  obtain ⟨u1, u2, u3⟩ := h.under hu
  have hit : r.is = true := by rw [his]; exact decide_eq_true hu
  have hv := h.cfg.1
  by_cases hp : p = s.unum
  · rw [if_pos hp]
    by_cases hf : m < floorOf s.v
    · rw [if_pos hf, if_neg (show ¬ (r.is = true ∧ r.number = p ∧ floorOf r.v ≤ m ∧ m < r.usize) from fun k => by rw [hv] at k; omega)]; exact ⟨h, rfl⟩
    rw [if_neg hf]
    by_cases hm : s.usize ≤ m
    · rw [if_pos hm, if_neg (show ¬ (r.is = true ∧ r.number = p ∧ floorOf r.v ≤ m ∧ m < r.usize) from fun k => by omega)]; exact ⟨h, rfl⟩
    rw [if_neg hm, if_pos (show r.is = true ∧ r.number = p ∧ floorOf r.v ≤ m ∧ m < r.usize from ⟨hit, by omega, by rw [hv]; omega, by omega⟩)]
    have e1 := h.st
    have e2 := h.low
    by_cases h2 : s.state = 2
    · rw [if_pos h2, if_neg (show ¬ r.st = 1 by omega)]
      by_cases hl : m < s.low
      · rw [if_pos hl, if_pos (show m < r.low by omega)]; exact ⟨h, rfl⟩
      rw [if_neg hl, if_neg (show ¬ m < r.low by omega)]
      by_cases hl2 : s.low < m
      · rw [if_pos hl2, if_neg (show ¬ m = r.low by omega)]
        exact ⟨⟨h.cfg, h.st, h.low, h.high, rfl, fun _ => rfl, rfl, rfl, fun h => absurd h (by show ¬ (0 : Int) < 0; decide), fun h => absurd h (by show ¬ (0 : Int) < 0; decide), h.losses, h.since, h.last, h.given⟩, rfl⟩
      · rw [if_neg hl2, if_pos (show m = r.low by omega)]
        exact ⟨h.drop hi hu hn, rfl⟩
    · rw [if_neg h2, if_pos (show r.st = 1 by have := hst hu; omega)]
      exact ⟨h.drop hi hu hn, rfl⟩
  · rw [if_neg hp, if_neg (show ¬ (r.is = true ∧ r.number = p ∧ floorOf r.v ≤ m ∧ m < r.usize) from fun k => hp (by omega))]; exact ⟨h, rfl⟩
theorem Sim.counts (h : Sim s r) (m : Int) : r.counts m = s.counts m := by
  have hc := counts_iff s m
  unfold Rt.counts
  rw [h.st, h.cfg.2.1, h.low]
  cases e : s.counts m
  · exact decide_eq_false (fun k => by rw [hc.2 k] at e; cases e)
  · exact decide_eq_true (hc.1 e)
theorem Sim.got (h : Sim s r) (m : Int) : Sim (s.got m) (r.got m) := by
  unfold Pt.got Rt.got
  rw [h.counts]
  split
  · exact ⟨h.cfg, h.st, h.low, h.high, h.hint, h.told, h.tries, h.is, h.under, h.heard, rfl, h.since, h.last, h.given⟩
  · exact h
theorem Sim.lost (h : Sim s r) (m : Int) : Sim (s.lost m).2 (r.lost m).2 ∧ (r.lost m).1 = (s.lost m).1 := by
  unfold Pt.lost Rt.lost
  have e1 := h.losses
  have e2 := h.cfg.2.2.2.2.1
  rw [h.counts]
  by_cases h1 : s.counts m = true
  · rw [if_pos h1, if_pos h1]
    by_cases h2 : s.losses + 1 < s.mlosses
    · rw [if_pos h2, if_pos (show r.losses + 1 < r.mlosses by omega)]
      exact ⟨⟨h.cfg, h.st, h.low, h.high, h.hint, h.told, h.tries, h.is, h.under, h.heard, by show r.losses + 1 = s.losses + 1; rw [e1], h.since, h.last, h.given⟩, rfl⟩
    · rw [if_neg h2, if_neg (show ¬ r.losses + 1 < r.mlosses by omega)]
      exact ⟨⟨h.cfg, rfl, h.low, h.high, rfl, fun h => absurd h (by show ¬ (0 : Int) < 0; decide), rfl, rfl, fun h => absurd h (by show ¬ (0 : Int) < 0; decide), fun h => absurd h (by show ¬ (0 : Int) < 0; decide), rfl, h.since, h.last, h.given⟩, rfl⟩
  · rw [if_neg h1, if_neg h1]; exact ⟨h, rfl⟩
end
end Go.Proofs.Ytmanojnhjhpokaa.PB
