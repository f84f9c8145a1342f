/- Where a run of settle ends, and behind how many probes: plain Lean. Conditions: those of each theorem. -/
import Derived.Test.YtmanojnhjhpokaaSeC
namespace Go.Proofs.Ytmanojnhjhpokaa.PB
set_option linter.unusedVariables false
set_option linter.unusedSimpArgs false
section
variable {K m now P : Int} {E s : Pt}
theorem raised_idle (h : E.state = 1 ∨ E.state = 2 ∨ now - E.since < E.raise) : E.raised now = E := by
  unfold Pt.raised
  by_cases h1 : E.raise ≤ now - E.since
  · rw [if_pos h1]
    rw [if_neg (show ¬ E.state = 3 by omega), if_neg (show ¬ E.state = 4 by omega)]
  · rw [if_neg h1]
theorem e1_inv (h : Inv K s) (hn : s.now ≤ now) (hx : now ≤ 1099511627776) : Inv K (e1 s now) ∧ (e1 s now).unum = 0 ∧ (e1 s now).now = now ∧ (e1 s now).cfg = s.cfg := by
  have ha := h.at_ (n := now) (by omega) (by omega)
  unfold e1
  by_cases hu : 0 < s.unum
  · rw [if_pos hu]
    have hS := Step.drop ({ s with now := now } : Pt) (unum_state ha hu)
    exact ⟨ha.drop hu, drop_unum _, hS.now, hS.cfg⟩
  · rw [if_neg hu]
    exact ⟨ha, by show s.unum = 0; unfold Inv at h; omega, rfl, rfl⟩
theorem e2_inv (h : Inv K s) (hn : s.now ≤ now) (hx : now ≤ 1099511627776) : Inv K (e2 s now) ∧ (e2 s now).unum = 0 ∧ (e2 s now).now = now ∧ (e2 s now).cfg = s.cfg := by
  obtain ⟨a, b, c, d⟩ := e1_inv h hn hx
  have hS := Step.raised (e1 s now) now
  exact ⟨a.raised b, raised_unum b, hS.now.trans c, hS.cfg.trans d⟩
theorem e2_self (hu : s.unum = 0) (hn : s.now = now) (h : s.state = 1 ∨ s.state = 2 ∨ now - s.since < s.raise) : e2 s now = s := by
  subst hn
  unfold e2 e1
  rw [if_neg (by omega)]
  exact raised_idle h
theorem Sr.pot_pos (hi : Inv K E) (h : Sr m E) (hp : Pot m E P) : 1 ≤ P := by
  obtain ⟨n1, n2, n3, n4, n5, n6, n7, n8, n9⟩ := h.nums hi
  rcases hp with ⟨h0, h1, b, hb, hP⟩ | ⟨h0, h1, b, hb, hP⟩ | ⟨h0, h1, hP⟩ | ⟨h0, h1, h2, hP⟩
  · have hmul : E.mtries * (1 + (b : Int)) = E.mtries + E.mtries * b := by rw [Int.mul_add, Int.mul_one]
    have hnn : 0 ≤ E.mtries * (b : Int) := Int.mul_nonneg (by omega) (by omega)
    omega
  · have hnn : 0 ≤ E.mtries * (b : Int) := Int.mul_nonneg (by omega) (by omega)
    omega
  · omega
  · omega
theorem told_none (h : E.state = 3 ∨ E.state = 4) : E.told now = ((0, 0), E) := by
  unfold Pt.told
  rw [if_neg (by omega), if_neg (by omega)]
theorem Next'.idle (h : Next' m E P) (hi : Inv K E) : E.unum = 0 ∧ (E.state = 1 ∨ E.state = 2 ∨ E.now - E.since < E.raise) := by
  have hr : 1 ≤ E.raise := by unfold Inv at hi; omega
  rcases h with h | h
  · exact ⟨h.un, .inr (.inr (by rw [h.since]; omega))⟩
  · exact ⟨h.1.un, .inr (.inl h.1.st)⟩
theorem sent_inv (hi : Inv K E) (hs : E.state = 1 ∨ E.state = 2) (hn : E.now = now) : Inv (K + 1) (sent E now) := by
  have := hi.told hn
  rw [told_sent hs] at this
  exact this
/-- One round of srun, where a probe is told. -/
theorem srun_step {talk : Int → Bool} {k : Nat} {n : Int} (hi : Inv K s) (hn : s.now ≤ now) (hx : now + s.wait ≤ 1099511627776) (hr : Ripe s now) (hE : e2 s now = E) (hs : E.state = 1 ∨ E.state = 2) :
    srun talk m (k + 1) s now n = if E.tried.1 ≤ m then srun talk m k ((sent E now).acked (E.number + 1)).2 now (n + 1) else if talk (n + 1) = true then srun talk m k ((sent E now).tooBig (E.number + 1) m).2 now (n + 1) else srun talk m k ({ sent E now with now := now + s.wait - 1 } : Pt) (now + s.wait) (n + 1) := by
  have hw : 1 ≤ s.wait := by unfold Inv at hi; omega
  obtain ⟨a1, a2, a3, a4⟩ := e2_inv hi hn (by omega)
  rw [hE] at a1 a2 a3 a4
  have hpos : 0 < E.tried.1 := by
    have ht := tried_in a1
    have hf := floor_pos E.v
    rcases hs with e | e
    · rw [ht.1 e]; unfold Inv at a1; omega
    · have := ht.2 e; unfold Inv at a1; omega
  have hnum : 0 ≤ E.number := by unfold Inv at a1; omega
  have hnx := nextA_eff hn (by omega) hr
  rw [hE, told_sent hs] at hnx
  have hsi := sent_inv a1 hs a3
  have hsw : (sent E now).wait = s.wait := by
    have : E.cfg = s.cfg := a4
    unfold Pt.cfg at this
    injection this
  have hsn : (sent E now).now = now := a3
  rw [srun, hnx]
  dsimp only
  rw [if_neg (by omega), ackedA_go hsn (by omega), tooBigA_go hsn (by omega)]
  have hwt := nextA_wait (s := sent E now) (now := now) hsi (by show 0 < E.number + 1; omega) hsn.symm (by rw [hsw]; omega) hsn (by rw [hsw]; exact hw)
  have hsum : now + (sent E now).wait - 1 = now + s.wait - 1 := by rw [hsw]
  rw [hsum] at hwt
  rw [hwt]
theorem srun_done {talk : Int → Bool} {k : Nat} {n : Int} (hi : Inv K s) (hn : s.now ≤ now) (hx : now ≤ 1099511627776) (hr : Ripe s now) (hs : (e2 s now).state = 3 ∨ (e2 s now).state = 4) :
    srun talk m (k + 1) s now n = (e2 s now, now, n) := by
  rw [srun, nextA_eff hn hx hr, told_none hs]
  rfl
/-- Behind the answer to a probe the path is what the next round finds. -/
theorem e2_next' {t : Pt} (h : Next' m t P) (hi : Inv K t) (hn : t.now = now) : e2 t now = t := by
  obtain ⟨a, b⟩ := h.idle hi
  exact e2_self a hn (by rw [← hn]; exact b)
theorem e2_silent {t : Pt} {w : Int} (hu : 0 < t.unum) (hi : Inv K (({ t with now := w } : Pt).drop)) (h : Next' m (({ t with now := w } : Pt).drop) P) (z : Int) : e2 ({ t with now := z } : Pt) w = ({ t with now := w } : Pt).drop := by
  obtain ⟨a, b⟩ := h.idle hi
  have hd : (({ t with now := w } : Pt).drop).now = w := drop_now _
  unfold e2 e1
  rw [if_pos (show 0 < ({ t with now := z } : Pt).unum from hu)]
  exact raised_idle (by rw [hd] at b; exact b)
/-- Where a run ends. -/
structure Ends (talk : Int → Bool) (m : Int) (K : Int) (k : Nat) (s : Pt) (now n : Int) (P : Int) (D : Pt → Prop) : Prop where
  is : ∃ (t : Pt) (T j : Int), srun talk m k s now n = (t, T, n + j) ∧ 0 ≤ j ∧ j ≤ P ∧ D t ∧ t.now = T ∧ t.cfg = s.cfg ∧ now ≤ T ∧ T ≤ now + 100 * j ∧ Inv (K + j) t
theorem Ends.more {talk : Int → Bool} {k : Nat} {s s2 : Pt} {now2 n : Int} {D : Pt → Prop} {P : Nat} (h : Ends talk m (K + 1) k s2 now2 (n + 1) P D) (hc : s2.cfg = s.cfg) (h1 : now ≤ now2) (h2 : now2 ≤ now + 100) (he : srun talk m (k + 1) s now n = srun talk m k s2 now2 (n + 1)) :
    Ends talk m K (k + 1) s now n ((P + 1 : Nat) : Int) D := by
  obtain ⟨t, T, j, e, a, b, c, d, f, g, i, l⟩ := h.is
  refine ⟨t, T, j + 1, by rw [he, e, show n + 1 + j = n + (j + 1) by omega], by omega, by omega, c, d, f.trans hc, by omega, by omega, by rw [show K + (j + 1) = K + 1 + j by omega]; exact l⟩
theorem search_run (talk : Int → Bool) (m : Int) : ∀ (P : Nat) (k : Nat) (K : Int) (s : Pt) (now n : Int), P < k → Inv K s → s.now ≤ now → Ripe s now → Next' m (e2 s now) P → now + 100 * (P + 1) ≤ 1099511627776 → s.wait ≤ 100 →
    Ends talk m K k s now n P (Fin m) := by
  intro P
  induction P with
  | zero =>
    intro k K s now n hk hi hn hr hN hx hw
    obtain ⟨k, rfl⟩ : ∃ q, k = q + 1 := ⟨k - 1, by omega⟩
    obtain ⟨a1, a2, a3, a4⟩ := e2_inv hi hn (by omega)
    rcases hN with hF | ⟨hS, hP⟩
    · exact ⟨e2 s now, now, 0, by rw [srun_done hi hn (by omega) hr (.inl hF.st), Int.add_zero], by omega, by omega, hF, a3, a4, by omega, by omega, by rw [Int.add_zero]; exact a1⟩
    · have := hS.pot_pos a1 hP; omega
  | succ P ih =>
    intro k K s now n hk hi hn hr hN hx hw
    obtain ⟨k, rfl⟩ : ∃ q, k = q + 1 := ⟨k - 1, by omega⟩
    obtain ⟨a1, a2, a3, a4⟩ := e2_inv hi hn (by omega)
    rcases hN with hF | ⟨hS, hP⟩
    · exact ⟨e2 s now, now, 0, by rw [srun_done hi hn (by omega) hr (.inl hF.st), Int.add_zero], by omega, by omega, hF, a3, a4, by omega, by omega, by rw [Int.add_zero]; exact a1⟩
    · have hst := srun_step (talk := talk) (m := m) (k := k) (n := n) hi hn (by omega) hr rfl (.inr hS.st)
      have hsi := sent_inv a1 (.inr hS.st) a3
      have hww : 1 ≤ s.wait := by unfold Inv at hi; omega
      have hP1 : ((P + 1 : Nat) : Int) - 1 = (P : Int) := by omega
      have hwait : ∀ t : Pt, t.cfg = (e2 s now).cfg → t.wait = s.wait := fun t e => by
        have : t.cfg = s.cfg := e.trans a4
        unfold Pt.cfg at this; injection this
      by_cases ha : (e2 s now).tried.1 ≤ m
      · rw [if_pos ha] at hst
        have hN2 := step_ack a1 hS hP ha a3
        rw [hP1] at hN2
        have hi2 : Inv (K + 1) ((sent (e2 s now) now).acked ((e2 s now).number + 1)).2 := hsi.acked
        have hk3 := (acked_says (p := (e2 s now).number + 1) hsi).2.2 ⟨by have : 0 ≤ (e2 s now).number := by (unfold Inv at a1; omega)
                                                                          show 0 < (e2 s now).number + 1; omega, rfl⟩
        have hn2 : ((sent (e2 s now) now).acked ((e2 s now).number + 1)).2.now = now := hk3.2.2.1.trans a3
        have hc2 : ((sent (e2 s now) now).acked ((e2 s now).number + 1)).2.cfg = (e2 s now).cfg := hk3.1
        refine Ends.more (ih k (K + 1) _ now (n + 1) (by omega) hi2 (by omega) (fun hu => absurd hu (by have := (hN2.idle hi2).1; omega)) (by rw [e2_next' hN2 hi2 hn2]; exact hN2) (by omega) (by rw [hwait _ hc2]; exact hw)) (hc2.trans a4) (by omega) (by omega) hst
      · rw [if_neg ha] at hst
        by_cases ht : talk (n + 1) = true
        · rw [if_pos ht] at hst
          have hN2 := step_too a1 hS hP ha a3
          rw [hP1] at hN2
          have hi2 : Inv (K + 1) ((sent (e2 s now) now).tooBig ((e2 s now).number + 1) m).2 := hsi.tooBig
          have hk3 := (tooBig_says (p := (e2 s now).number + 1) (m := m) hsi).1
          have hn2 : ((sent (e2 s now) now).tooBig ((e2 s now).number + 1) m).2.now = now := hk3.now.trans a3
          have hc2 : ((sent (e2 s now) now).tooBig ((e2 s now).number + 1) m).2.cfg = (e2 s now).cfg := hk3.cfg
          refine Ends.more (ih k (K + 1) _ now (n + 1) (by omega) hi2 (by omega) (fun hu => absurd hu (by have := (hN2.idle hi2).1; omega)) (by rw [e2_next' hN2 hi2 hn2]; exact hN2) (by omega) (by rw [hwait _ hc2]; exact hw)) (hc2.trans a4) (by omega) (by omega) hst
        · rw [if_neg ht] at hst
          have hN2 := step_drop (now := now) (now' := now + s.wait) a1 hS hP ha
          rw [hP1] at hN2
          have hu : 0 < (sent (e2 s now) now).unum := by have : 0 ≤ (e2 s now).number := by (unfold Inv at a1; omega)
                                                         show 0 < (e2 s now).number + 1; omega
          have hi2 : Inv (K + 1) ({ sent (e2 s now) now with now := now + s.wait - 1 } : Pt) := hsi.at_ (by show ¬ now + s.wait - 1 < (e2 s now).now; omega) (by omega)
          have hi3 : Inv (K + 1) ({ sent (e2 s now) now with now := now + s.wait } : Pt).drop := (hsi.at_ (n := now + s.wait) (by show ¬ now + s.wait < (e2 s now).now; omega) (by omega)).drop hu
          have he : e2 ({ sent (e2 s now) now with now := now + s.wait - 1 } : Pt) (now + s.wait) = ({ sent (e2 s now) now with now := now + s.wait } : Pt).drop := e2_silent hu hi3 hN2 _
          have hwe : (e2 s now).wait = s.wait := hwait _ rfl
          refine Ends.more (ih k (K + 1) _ (now + s.wait) (n + 1) (by omega) hi2 (by show now + s.wait - 1 ≤ now + s.wait; omega) (fun _ => by show (e2 s now).wait ≤ now + s.wait - now; omega) (by rw [he]; exact hN2) (by omega) (by show (e2 s now).wait ≤ 100; omega)) a4 (by omega) (by omega) hst
end
end Go.Proofs.Ytmanojnhjhpokaa.PB
