/- A run of settle from the base, and over a way that is narrower than what is known: plain Lean. Conditions: those of each theorem. -/
import Derived.Test.YtmanojnhjhpokaaSeD
namespace Go.Proofs.Ytmanojnhjhpokaa.PB
set_option linter.unusedVariables false
set_option linter.unusedSimpArgs false
section
variable {K m now : Int} {E s : Pt}
theorem same_now (t : Pt) {n : Int} (h : t.now = n) : ({ t with now := n } : Pt) = t := by subst h; rfl
/-- The base got through. -/
theorem base_ack {b : Nat} (hi : Inv K E) (h1 : E.state = 1) (hu : E.unum = 0) (hm : E.base ≤ m) (hn : E.now = now) (hb : E.most - E.base ≤ 2 ^ b) : E.tried.1 = E.base ∧ Next' m ((sent E now).acked (E.number + 1)).2 ((E.mtries + 1) + E.mtries * (1 + b)) := by
  have ht := (tried_in hi).1 h1
  have hnn : 0 ≤ E.number := by unfold Inv at hi; omega
  have hbm : E.base ≤ E.most := by unfold Inv at hi; omega
  refine ⟨ht, ?_⟩
  have hacked : ((sent E now).acked (E.number + 1)).2 = (sent E now).acked1.settled := by
    unfold Pt.acked
    rw [if_neg (show ¬ (sent E now).unum = 0 by show ¬ E.number + 1 = 0; omega), if_pos (show E.number + 1 = (sent E now).unum from rfl)]
  have h1' : (sent E now).acked1 = ({ (sent E now).under0 0 with losses := 0, low := (sent E now).base } : Pt).search := by
    unfold Pt.acked1
    rw [if_pos (show (sent E now).state = 1 from h1)]
  rw [hacked, h1']
  unfold Pt.settled
  by_cases e : E.base = E.most
  · rw [if_pos (show (({ (sent E now).under0 0 with losses := 0, low := (sent E now).base } : Pt).search).low = (({ (sent E now).under0 0 with losses := 0, low := (sent E now).base } : Pt).search).most from e)]
    exact .inl ⟨rfl, rfl, by show E.base = min m E.most; omega, rfl, rfl⟩
  · rw [if_neg (show ¬ (({ (sent E now).under0 0 with losses := 0, low := (sent E now).base } : Pt).search).low = (({ (sent E now).under0 0 with losses := 0, low := (sent E now).base } : Pt).search).most from e)]
    rw [if_neg (show ¬ (({ (sent E now).under0 0 with losses := 0, low := (sent E now).base } : Pt).search).high = (({ (sent E now).under0 0 with losses := 0, low := (sent E now).base } : Pt).search).low + 1 by show ¬ E.most + 1 = E.base + 1; omega)]
    exact .inr ⟨⟨rfl, rfl, hm, .inr rfl, rfl⟩, .inl ⟨rfl, rfl, b, hb, by show (E.mtries + 1) + E.mtries * (1 + b) - 0 ≤ _; omega⟩⟩
theorem base_run (talk : Int → Bool) {b P k : Nat} {n : Int} (hk : P + 1 < k) (hi : Inv K s) (hn : s.now ≤ now) (hr : Ripe s now) (h1 : (e2 s now).state = 1) (hm : s.base ≤ m) (hb : s.most - s.base ≤ 2 ^ b) (hP : (s.mtries + 1) + s.mtries * (1 + b) ≤ P) (hx : now + 100 * (P + 2) ≤ 1099511627776) (hw : s.wait ≤ 100) :
    Ends talk m K k s now n ((P + 1 : Nat) : Int) (Fin m) := by
  obtain ⟨k, rfl⟩ : ∃ q, k = q + 1 := ⟨k - 1, by omega⟩
  obtain ⟨a1, a2, a3, a4⟩ := e2_inv hi hn (by omega)
  have a5 := a4
  unfold Pt.cfg at a5
  injection a5 with c1 c2 c3 c4 c5 c6 c7
  obtain ⟨q1, q2⟩ := base_ack (b := b) (m := m) a1 h1 a2 (by rw [c2]; exact hm) a3 (by rw [c2, c3]; exact hb)
  rw [c4] at q2
  have hst := srun_step (talk := talk) (m := m) (k := k) (n := n) hi hn (by omega) hr rfl (.inl h1)
  have hsi := sent_inv a1 (.inl h1) a3
  rw [if_pos (by rw [q1, c2]; exact hm)] at hst
  have hi2 : Inv (K + 1) ((sent (e2 s now) now).acked ((e2 s now).number + 1)).2 := hsi.acked
  have hnum : 0 ≤ (e2 s now).number := by unfold Inv at a1; omega
  have hk3 := (acked_says (p := (e2 s now).number + 1) hsi).2.2 ⟨by show 0 < (e2 s now).number + 1; omega, rfl⟩
  have hn2 : ((sent (e2 s now) now).acked ((e2 s now).number + 1)).2.now = now := hk3.2.2.1.trans a3
  have hc2 : ((sent (e2 s now) now).acked ((e2 s now).number + 1)).2.cfg = (e2 s now).cfg := hk3.1
  have hw2 : ((sent (e2 s now) now).acked ((e2 s now).number + 1)).2.wait = s.wait := by
    have := hc2.trans a4
    unfold Pt.cfg at this
    injection this
  have hN : Next' m ((sent (e2 s now) now).acked ((e2 s now).number + 1)).2 (P : Int) := by
    rcases q2 with h | ⟨h, hp⟩
    · exact .inl h
    · refine .inr ⟨h, ?_⟩
      rcases hp with ⟨x1, x2, y, x3, x4⟩ | ⟨x1, x2, y, x3, x4⟩ | ⟨x1, x2, x3⟩ | ⟨x1, x2, x3, x4⟩
      · exact .inl ⟨x1, x2, y, x3, by omega⟩
      · exact .inr (.inl ⟨x1, x2, y, x3, by omega⟩)
      · exact .inr (.inr (.inl ⟨x1, x2, by omega⟩))
      · exact .inr (.inr (.inr ⟨x1, x2, x3, by omega⟩))
  exact Ends.more (search_run talk m P k (K + 1) _ now (n + 1) (by omega) hi2 (by omega) (fun hu => absurd hu (by have := (hN.idle hi2).1; omega)) (by rw [e2_next' hN hi2 hn2]; exact hN) (by omega) (by rw [hw2]; exact hw)) (hc2.trans a4) (by omega) (by omega) hst
/-- A path that not even its base gets through. -/
structure FinE (E : Pt) : Prop where
  st : E.state = 4
  un : E.unum = 0
  since : E.since = E.now
/-- Behind a lost base. -/
def NextE (l : Int) (E : Pt) (P : Int) : Prop := E.losses = l ∧ ((P = 0 ∧ FinE E) ∨ (E.state = 1 ∧ E.unum = 0 ∧ E.mtries - E.tries = P))
theorem base_drop {now' P l : Int} (hi : Inv K E) (h1 : E.state = 1) (hl : E.losses = l) (hP : E.mtries - E.tries = P) : NextE l ({ sent E now with now := now' } : Pt).drop (P - 1) := by
  have ht : 0 ≤ E.tries ∧ E.tries < E.mtries := by unfold Inv at hi; omega
  unfold Pt.drop
  by_cases h2 : E.tries + 1 < E.mtries
  · rw [if_pos (show ({ sent E now with now := now' } : Pt).tries + 1 < ({ sent E now with now := now' } : Pt).mtries from h2)]
    exact ⟨hl, .inr ⟨h1, rfl, by show E.mtries - (E.tries + 1) = P - 1; omega⟩⟩
  · rw [if_neg (show ¬ ({ sent E now with now := now' } : Pt).tries + 1 < ({ sent E now with now := now' } : Pt).mtries from h2), if_pos (show ({ sent E now with now := now' } : Pt).state = 1 from h1)]
    exact ⟨hl, .inl ⟨by omega, rfl, rfl, rfl⟩⟩
theorem NextE.idle {l P : Int} (h : NextE l E P) (hi : Inv K E) : E.unum = 0 ∧ (E.state = 1 ∨ E.state = 2 ∨ E.now - E.since < E.raise) := by
  have hr : 1 ≤ E.raise := by unfold Inv at hi; omega
  rcases h.2 with ⟨_, h⟩ | h
  · exact ⟨h.un, .inr (.inr (by rw [h.since]; omega))⟩
  · exact ⟨h.2.1, .inl h.1⟩
theorem e2_silent' {t : Pt} {w : Int} (hu : 0 < t.unum) (h : (({ t with now := w } : Pt).drop).unum = 0 ∧ ((({ t with now := w } : Pt).drop).state = 1 ∨ (({ t with now := w } : Pt).drop).state = 2 ∨ (({ t with now := w } : Pt).drop).now - (({ t with now := w } : Pt).drop).since < (({ t with now := w } : Pt).drop).raise)) (z : Int) : e2 ({ t with now := z } : Pt) w = ({ t with now := w } : Pt).drop := by
  obtain ⟨a, b⟩ := h
  have hd : (({ t with now := w } : Pt).drop).now = w := drop_now _
  unfold e2 e1
  rw [if_pos (show 0 < ({ t with now := z } : Pt).unum from hu)]
  exact raised_idle (by rw [hd] at b; exact b)
/-- Where a run over a way that the base does not get through ends. -/
theorem err_run (talk : Int → Bool) (m l : Int) : ∀ (P : Nat) (k : Nat) (K : Int) (s : Pt) (now n : Int), P < k → Inv K s → s.now ≤ now → Ripe s now → NextE l (e2 s now) P → m < s.base → floorOf s.v ≤ m → now + 100 * (P + 1) ≤ 1099511627776 → s.wait ≤ 100 →
    ∃ (t : Pt) (T : Int), srun talk m k s now n = (t, T, n + P) ∧ FinE t ∧ t.losses = l ∧ t.now = T ∧ t.cfg = s.cfg ∧ now ≤ T ∧ T ≤ now + 100 * P ∧ Inv (K + P) t := by
  intro P
  induction P with
  | zero =>
    intro k K s now n hk hi hn hr hN hm hf hx hw
    obtain ⟨k, rfl⟩ : ∃ q, k = q + 1 := ⟨k - 1, by omega⟩
    obtain ⟨a1, a2, a3, a4⟩ := e2_inv hi hn (by omega)
    obtain ⟨hl, ⟨_, hF⟩ | ⟨h1, h2, h3⟩⟩ := hN
    · exact ⟨e2 s now, now, by rw [srun_done hi hn (by omega) hr (.inr hF.st)]; simp, hF, hl, a3, a4, by omega, by omega, by simpa using a1⟩
    · exfalso; unfold Inv at a1; omega
  | succ P ih =>
    intro k K s now n hk hi hn hr hN hm hf hx hw
    obtain ⟨k, rfl⟩ : ∃ q, k = q + 1 := ⟨k - 1, by omega⟩
    obtain ⟨a1, a2, a3, a4⟩ := e2_inv hi hn (by omega)
    obtain ⟨hl, ⟨h0, _⟩ | ⟨h1, h2, h3⟩⟩ := hN
    · omega
    have a5 := a4
    unfold Pt.cfg at a5
    injection a5 with c1 c2 c3 c4 c5 c6 c7
    have ht := (tried_in a1).1 h1
    have hst := srun_step (talk := talk) (m := m) (k := k) (n := n) hi hn (by omega) hr rfl (.inl h1)
    have hsi := sent_inv a1 (.inl h1) a3
    have hww : 1 ≤ s.wait := by unfold Inv at hi; omega
    have hP1 : ((P + 1 : Nat) : Int) - 1 = (P : Int) := by omega
    have hnum : 0 ≤ (e2 s now).number := by unfold Inv at a1; omega
    rw [if_neg (by rw [ht, c2]; omega)] at hst
    have hcf : ∀ t : Pt, t.cfg = (e2 s now).cfg → t.wait = s.wait ∧ t.base = s.base ∧ t.v = s.v := fun t e => by
      have : t.cfg = s.cfg := e.trans a4
      unfold Pt.cfg at this
      injection this with _ _ _ _ _ _ _
      exact ⟨by assumption, by assumption, by assumption⟩
    by_cases htk : talk (n + 1) = true
    · rw [if_pos htk] at hst
      have htb : ((sent (e2 s now) now).tooBig ((e2 s now).number + 1) m).2 = ({ sent (e2 s now) now with now := now } : Pt).drop := by
        have hs : ({ sent (e2 s now) now with now := now } : Pt) = sent (e2 s now) now := same_now (sent (e2 s now) now) a3
        rw [hs]
        unfold Pt.tooBig
        rw [if_neg (show ¬ (sent (e2 s now) now).unum = 0 by show ¬ (e2 s now).number + 1 = 0; omega), if_pos (show (e2 s now).number + 1 = (sent (e2 s now) now).unum from rfl), if_neg (show ¬ m < floorOf (sent (e2 s now) now).v by show ¬ m < floorOf (e2 s now).v; rw [c1]; omega), if_neg (show ¬ (sent (e2 s now) now).usize ≤ m by show ¬ (e2 s now).tried.1 ≤ m; rw [ht, c2]; omega), if_neg (show ¬ (sent (e2 s now) now).state = 2 by show ¬ (e2 s now).state = 2; omega)]
      have hN2 := base_drop (now := now) (now' := now) a1 h1 hl h3
      rw [hP1] at hN2
      have hi2 : Inv (K + 1) ((sent (e2 s now) now).tooBig ((e2 s now).number + 1) m).2 := hsi.tooBig
      have hk3 := (tooBig_says (p := (e2 s now).number + 1) (m := m) hsi).1
      rw [← htb] at hN2
      have hn2 : ((sent (e2 s now) now).tooBig ((e2 s now).number + 1) m).2.now = now := hk3.now.trans a3
      have hc2 : ((sent (e2 s now) now).tooBig ((e2 s now).number + 1) m).2.cfg = (e2 s now).cfg := hk3.cfg
      obtain ⟨w1, w2, w3⟩ := hcf _ hc2
      have hid := hN2.idle hi2
      have he : e2 ((sent (e2 s now) now).tooBig ((e2 s now).number + 1) m).2 now = ((sent (e2 s now) now).tooBig ((e2 s now).number + 1) m).2 := e2_self hid.1 hn2 (by have := hid.2; rw [hn2] at this; exact this)
      obtain ⟨t, T, r1, r2, r3, r4, r5, r6, r7, r8⟩ := ih k (K + 1) _ now (n + 1) (by omega) hi2 (by omega) (fun hu => absurd hu (by have := hid.1; omega)) (by rw [he]; exact hN2) (by rw [w2]; exact hm) (by rw [w3]; exact hf) (by omega) (by rw [w1]; exact hw)
      exact ⟨t, T, by rw [hst, r1, show n + 1 + (P : Int) = n + ((P + 1 : Nat) : Int) by omega], r2, r3, r4, r5.trans (hc2.trans a4), r6, by omega, by rw [show K + ((P + 1 : Nat) : Int) = K + 1 + P by omega]; exact r8⟩
    · rw [if_neg htk] at hst
      have hN2 := base_drop (now := now) (now' := now + s.wait) a1 h1 hl h3
      rw [hP1] at hN2
      have hu : 0 < (sent (e2 s now) now).unum := by show 0 < (e2 s now).number + 1; omega
      have hi2 : Inv (K + 1) ({ sent (e2 s now) now with now := now + s.wait - 1 } : Pt) := hsi.at_ (by show ¬ now + s.wait - 1 < (e2 s now).now; omega) (by omega)
      have hi3 : Inv (K + 1) ({ sent (e2 s now) now with now := now + s.wait } : Pt).drop := (hsi.at_ (n := now + s.wait) (by show ¬ now + s.wait < (e2 s now).now; omega) (by omega)).drop hu
      have he : e2 ({ sent (e2 s now) now with now := now + s.wait - 1 } : Pt) (now + s.wait) = ({ sent (e2 s now) now with now := now + s.wait } : Pt).drop := e2_silent' hu (hN2.idle hi3) _
      obtain ⟨w1, w2, w3⟩ := hcf (e2 s now) rfl
      obtain ⟨t, T, r1, r2, r3, r4, r5, r6, r7, r8⟩ := ih k (K + 1) ({ sent (e2 s now) now with now := now + s.wait - 1 } : Pt) (now + s.wait) (n + 1) (by omega) hi2 (by show now + s.wait - 1 ≤ now + s.wait; omega) (fun _ => by show (e2 s now).wait ≤ now + s.wait - now; omega) (by rw [he]; exact hN2) (by show m < (e2 s now).base; omega) (by show floorOf (e2 s now).v ≤ m; rw [w3]; exact hf) (by omega) (by show (e2 s now).wait ≤ 100; omega)
      exact ⟨t, T, by rw [hst, r1, show n + 1 + (P : Int) = n + ((P + 1 : Nat) : Int) by omega], r2, r3, r4, r5.trans a4, by omega, by omega, by rw [show K + ((P + 1 : Nat) : Int) = K + 1 + P by omega]; exact r8⟩
end
end Go.Proofs.Ytmanojnhjhpokaa.PB
