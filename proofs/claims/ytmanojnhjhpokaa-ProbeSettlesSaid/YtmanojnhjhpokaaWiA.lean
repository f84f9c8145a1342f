/- The rounds of ProbeWithin in plain Lean: what a path answers to each call keeps the bounds that the statement asks for. Conditions: those of each theorem. -/
import Derived.Test.YtmanojnhjhpokaaPR
namespace Go.Proofs.Ytmanojnhjhpokaa.PB
set_option linter.unusedVariables false
set_option linter.unusedSimpArgs false
def Pt.cfg (s : Pt) : Cfg := ⟨s.v, s.base, s.most, s.mtries, s.mlosses, s.wait, s.raise⟩
/-- What a step that sends no probe may change. -/
structure Step (s t : Pt) : Prop where
  cfg : t.cfg = s.cfg
  number : t.number = s.number
  now : t.now = s.now
  low : t.state = 2 ∨ t.state = 3 → t.low = s.low ∧ (s.state = 2 ∨ s.state = 3)
theorem Step.refl (s : Pt) : Step s s := ⟨rfl, rfl, rfl, fun h => ⟨rfl, h⟩⟩
theorem Step.trans {s t u : Pt} (h : Step s t) (k : Step t u) : Step s u :=
  ⟨k.cfg.trans h.cfg, k.number.trans h.number, k.now.trans h.now, fun e => by
    have a := k.low e
    have b := h.low a.2
    exact ⟨a.1.trans b.1, b.2⟩⟩
theorem Step.drop (s : Pt) (hs : s.state = 1 ∨ s.state = 2) : Step s s.drop := by
  unfold Pt.drop
  split
  · exact ⟨rfl, rfl, rfl, fun h => ⟨rfl, h⟩⟩
  split
  · exact ⟨rfl, rfl, rfl, fun h => by have h : (4 : Int) = 2 ∨ (4 : Int) = 3 := h; omega⟩
  split
  · exact ⟨rfl, rfl, rfl, fun h => ⟨rfl, by omega⟩⟩
  · exact ⟨rfl, rfl, rfl, fun h => ⟨rfl, h⟩⟩
theorem Step.raised (s : Pt) (n : Int) : Step s (s.raised n) := by
  unfold Pt.raised
  split
  · split
    · split
      · exact ⟨rfl, rfl, rfl, fun h => ⟨rfl, by omega⟩⟩
      · exact Step.refl s
    · split
      · exact ⟨rfl, rfl, rfl, fun h => by have h : (1 : Int) = 2 ∨ (1 : Int) = 3 := h; omega⟩
      · exact Step.refl s
  · exact Step.refl s
theorem unum_state {K : Int} {s : Pt} (h : Inv K s) (hu : 0 < s.unum) : s.state = 1 ∨ s.state = 2 := by unfold Inv at h; omega
theorem unum_idle {K : Int} {s : Pt} (h : Inv K s) (hs : s.state = 3 ∨ s.state = 4) : s.unum = 0 := by unfold Inv at h; omega
theorem cfg_eq {s t : Pt} (h : t.cfg = s.cfg) : t.v = s.v ∧ t.base = s.base ∧ t.most = s.most := by
  unfold Pt.cfg at h; injection h; exact ⟨by assumption, by assumption, by assumption⟩
/-- Sizes do not grow but at the base. -/
theorem Step.size {K K' : Int} {s t : Pt} (h : Step s t) (hs : Inv K s) (ht : Inv K' t) : t.state = 1 ∨ t.size ≤ s.size := by
  have hc := cfg_eq h.cfg
  have hl := h.low
  have hi : floorOf s.v ≤ s.base ∧ (s.state = 2 ∨ s.state = 3 → s.base ≤ s.low) := by unfold Inv at hs; exact ⟨hs.2.1, fun h => by omega⟩
  have hj : t.state = 1 ∨ t.state = 2 ∨ t.state = 3 ∨ t.state = 4 := by unfold Inv at ht; omega
  have hk : s.state = 1 ∨ s.state = 2 ∨ s.state = 3 ∨ s.state = 4 := by unfold Inv at hs; omega
  clear hs ht h
  unfold Pt.size
  rw [hc.1, hc.2.1]
  by_cases h1 : t.state = 1
  · exact .inl h1
  right
  rw [if_neg h1]
  by_cases h4 : t.state = 4
  · rw [if_pos h4]
    split
    · omega
    split
    · omega
    · omega
  · rw [if_neg h4]
    have := hl (by omega)
    rw [if_neg (by omega), if_neg (by omega)]
    omega
theorem told_facts {K n : Int} {s : Pt} (h : Inv K s) (hK : 0 ≤ s.number) : (s.told n).2.cfg = s.cfg ∧ (s.told n).2.now = s.now ∧ (s.told n).2.state = s.state ∧ (s.told n).2.low = s.low ∧
    ((s.state = 1 ∨ s.state = 2) → (s.told n).1.2 = s.number + 1 ∧ (s.told n).2.number = s.number + 1 ∧ (s.told n).2.unum = s.number + 1 ∧ (s.told n).2.usize = (s.told n).1.1 ∧ s.base ≤ (s.told n).1.1 ∧ (s.told n).1.1 ≤ s.most ∧ 0 < (s.told n).1.1) ∧
    (¬ (s.state = 1 ∨ s.state = 2) → s.told n = ((0, 0), s)) := by
  have ht := tried_in h
  have hf := floor_pos s.v
  unfold Pt.told
  by_cases h1 : s.state = 1
  · rw [if_pos h1]
    have := ht.1 h1
    refine ⟨rfl, rfl, rfl, rfl, fun _ => ⟨rfl, rfl, rfl, rfl, ?_⟩, fun h => absurd (.inl h1) h⟩
    unfold Inv at h; dsimp only; omega
  rw [if_neg h1]
  by_cases h2 : s.state = 2
  · rw [if_pos h2]
    have := ht.2 h2
    refine ⟨rfl, rfl, rfl, rfl, fun _ => ⟨rfl, rfl, rfl, rfl, ?_⟩, fun h => absurd (.inr h2) h⟩
    unfold Inv at h; dsimp only; omega
  rw [if_neg h2]
  exact ⟨rfl, rfl, rfl, rfl, fun h => by omega, fun _ => rfl⟩
/-- What a Next may answer, and what it leaves. -/
structure NextSays (s : Pt) (a b : Int) (t : Pt) : Prop where
  cfg : t.cfg = s.cfg
  now : t.now = s.now
  low : t.state = 2 ∨ t.state = 3 → t.low = s.low ∧ (s.state = 2 ∨ s.state = 3)
  yes : 0 < a → b = s.number + 1 ∧ t.number = s.number + 1 ∧ t.unum = s.number + 1 ∧ t.usize = a ∧ s.base ≤ a ∧ a ≤ s.most
  no : ¬ 0 < a → a = 0 ∧ b = 0 ∧ t.number = s.number ∧ (t.state = 3 ∨ t.state = 4 ∨ (t.unum = s.unum ∧ t.usize = s.usize))
theorem told_says {K n : Int} {s t : Pt} (h : Inv K s) (hst : Step s t) (ht : Inv K t) : NextSays s (t.told n).1.1 (t.told n).1.2 (t.told n).2 := by
  have hn : 0 ≤ t.number := by unfold Inv at ht; omega
  obtain ⟨f1, f2, f3, f4, f5, f6⟩ := told_facts (n := n) ht hn
  have hc := cfg_eq hst.cfg
  have hnu := hst.number
  refine ⟨f1.trans hst.cfg, f2.trans hst.now, fun e => ?_, fun e => ?_, fun e => ?_⟩
  · rw [f3] at e; rw [f4]; exact hst.low e
  · by_cases hs : t.state = 1 ∨ t.state = 2
    · have g := f5 hs
      rw [hnu] at g
      rw [hc.2.1, hc.2.2] at g
      exact ⟨g.1, g.2.1, g.2.2.1, g.2.2.2.1, g.2.2.2.2.1, g.2.2.2.2.2.1⟩
    · rw [f6 hs] at e; exact absurd (show (0 : Int) < 0 from e) (by decide)
  · by_cases hs : t.state = 1 ∨ t.state = 2
    · exact absurd (f5 hs).2.2.2.2.2.2 e
    · rw [f6 hs]
      refine ⟨rfl, rfl, hnu, ?_⟩
      have : t.state = 3 ∨ t.state = 4 := by unfold Inv at ht; omega
      rcases this with h | h
      · exact .inl h
      · exact .inr (.inl h)
theorem next_says {K n : Int} {s : Pt} (h : Inv K s) (hn : s.now = n) : NextSays s (s.next n).1.1 (s.next n).1.2 (s.next n).2 := by
  unfold Pt.next
  by_cases hu : 0 < s.unum
  · rw [if_pos hu]
    by_cases hw : n - s.uat < s.wait
    · rw [if_pos hw]
      exact ⟨rfl, rfl, fun h => ⟨rfl, h⟩, fun e => absurd (show (0 : Int) < 0 from e) (by decide), fun _ => ⟨rfl, rfl, rfl, .inr (.inr ⟨rfl, rfl⟩)⟩⟩
    · rw [if_neg hw]
      exact told_says h ((Step.drop s (unum_state h hu)).trans (Step.raised _ n)) ((h.drop hu).raised (drop_unum s))
  · rw [if_neg hu]
    exact told_says h (Step.raised _ n) (h.raised (by unfold Inv at h; omega))
theorem acked_says {K p : Int} {s : Pt} (h : Inv K s) :
    (s.acked p).1 = decide (0 < s.unum ∧ p = s.unum) ∧ (¬ (0 < s.unum ∧ p = s.unum) → (s.acked p).2 = s) ∧
    ((0 < s.unum ∧ p = s.unum) → (s.acked p).2.cfg = s.cfg ∧ (s.acked p).2.number = s.number ∧ (s.acked p).2.now = s.now ∧ (s.acked p).2.unum = 0 ∧ ((s.acked p).2.state = 2 ∨ (s.acked p).2.state = 3) ∧ (s.acked p).2.low = s.usize) := by
  have hu0 : 0 ≤ s.unum := by unfold Inv at h; omega
  have hb : s.state = 1 → 0 < s.unum → s.usize = s.base := fun e k => by unfold Inv at h; omega
  unfold Pt.acked
  by_cases hz : s.unum = 0
  · rw [if_pos hz]
    exact ⟨(decide_eq_false (by omega)).symm, fun _ => rfl, fun h => by omega⟩
  rw [if_neg hz]
  by_cases hp : p = s.unum
  · rw [if_pos hp]
    refine ⟨(decide_eq_true (by omega)).symm, fun h => absurd ⟨by omega, hp⟩ h, fun _ => ?_⟩
    have key : ∀ t : Pt, t.cfg = s.cfg ∧ t.number = s.number ∧ t.now = s.now ∧ t.unum = 0 ∧ t.state = 2 ∧ t.low = s.usize → t.settled.cfg = s.cfg ∧ t.settled.number = s.number ∧ t.settled.now = s.now ∧ t.settled.unum = 0 ∧ (t.settled.state = 2 ∨ t.settled.state = 3) ∧ t.settled.low = s.usize := by
      rintro t ⟨a1, a2, a3, a4, a5, a6⟩
      unfold Pt.settled
      split
      · exact ⟨a1, a2, a3, a4, .inr rfl, a6⟩
      split
      · exact ⟨a1, a2, a3, a4, .inr rfl, a6⟩
      · exact ⟨a1, a2, a3, a4, .inl a5, a6⟩
    have h2 : s.state = 1 ∨ s.state = 2 := unum_state h (by omega)
    refine key _ ?_
    unfold Pt.acked1
    by_cases h1 : s.state = 1
    · rw [if_pos h1]; exact ⟨rfl, rfl, rfl, rfl, rfl, (hb h1 (by omega)).symm⟩
    · rw [if_neg h1]
      have h2 : s.state = 2 := by omega
      split
      · split
        · exact ⟨rfl, rfl, rfl, rfl, h2, rfl⟩
        · exact ⟨rfl, rfl, rfl, rfl, h2, rfl⟩
      · exact ⟨rfl, rfl, rfl, rfl, h2, rfl⟩
  · rw [if_neg hp]
    exact ⟨(decide_eq_false (by omega)).symm, fun _ => rfl, fun h => absurd h.2 hp⟩
theorem tooBig_says {K p m : Int} {s : Pt} (h : Inv K s) : Step s (s.tooBig p m).2 ∧ ((s.tooBig p m).1 = true → p = s.unum ∧ m < s.usize ∧ (s.tooBig p m).2.unum = 0) ∧ ((s.tooBig p m).1 = false → (s.tooBig p m).2 = s) ∧
    ((s.tooBig p m).2.size ≠ s.size → (s.tooBig p m).2.state = 4) := by
  have no : Step s s ∧ ((false : Bool) = true → p = s.unum ∧ m < s.usize ∧ s.unum = 0) ∧ ((false : Bool) = false → s = s) ∧ (s.size ≠ s.size → s.state = 4) := ⟨Step.refl s, (fun h => by cases h), fun _ => rfl, fun h => absurd rfl h⟩
  unfold Pt.tooBig
  by_cases hz : s.unum = 0
  · rw [if_pos hz]; exact no
  rw [if_neg hz]
  by_cases hpn : ¬ p = s.unum
  · rw [if_neg hpn]; exact no
  have hp : p = s.unum := Decidable.not_not.1 hpn
  rw [if_pos hp]
  by_cases hf : m < floorOf s.v
  · rw [if_pos hf]; exact no
  rw [if_neg hf]
  by_cases hm : s.usize ≤ m
  · rw [if_pos hm]; exact no
  rw [if_neg hm]
  have hu : 0 < s.unum := by unfold Inv at h; omega
  have hst := unum_state h hu
  have hdr : Step s s.drop ∧ ((true : Bool) = true → p = s.unum ∧ m < s.usize ∧ s.drop.unum = 0) ∧ ((true : Bool) = false → s.drop = s) ∧ (s.drop.size ≠ s.size → s.drop.state = 4) := by
    refine ⟨Step.drop s hst, fun _ => ⟨hp, by omega, drop_unum s⟩, (fun h => by cases h), fun hne => ?_⟩
    have hd := h.drop hu
    have hS := Step.drop s hst
    have hc := cfg_eq hS.cfg
    by_cases h4 : s.drop.state = 4
    · exact h4
    · exfalso
      apply hne
      unfold Pt.size
      rw [hc.1, hc.2.1]
      by_cases h1 : s.state = 1
      · have : s.drop.state = 1 := by
          have hl := hS.low
          unfold Inv at hd; omega
        rw [if_pos this, if_pos h1]
      · have h2 : s.state = 2 := by omega
        have : s.drop.state = 2 ∨ s.drop.state = 3 := by
          unfold Pt.drop
          split
          · exact .inl h2
          split
          · exact .inr rfl
          · exact .inl h2
        have hl := hS.low this
        rw [if_neg (by omega), if_neg (by omega), if_neg (by omega), if_neg (by omega), hl.1]
  by_cases h2 : s.state = 2
  · rw [if_pos h2]
    by_cases hl : m < s.low
    · rw [if_pos hl]; exact no
    rw [if_neg hl]
    by_cases hl2 : s.low < m
    · rw [if_pos hl2]
      exact ⟨⟨rfl, rfl, rfl, fun h => ⟨rfl, h⟩⟩, fun _ => ⟨hp, by omega, rfl⟩, (fun h => by cases h), fun hne => absurd rfl hne⟩
    · rw [if_neg hl2]; exact hdr
  · rw [if_neg h2]; exact hdr
theorem got_says {m : Int} {s : Pt} : Step s (s.got m) ∧ (s.got m).unum = s.unum ∧ (s.got m).usize = s.usize := by
  unfold Pt.got
  split
  · exact ⟨⟨rfl, rfl, rfl, fun h => ⟨rfl, h⟩⟩, rfl, rfl⟩
  · exact ⟨Step.refl s, rfl, rfl⟩
theorem lost_says {m : Int} {s : Pt} : Step s (s.lost m).2 ∧ ((s.lost m).1 = true → s.state ≠ 1 ∧ (s.lost m).2.state = 1 ∧ (s.lost m).2.unum = 0) ∧ ((s.lost m).1 = false → (s.lost m).2.state = s.state ∧ (s.lost m).2.unum = s.unum ∧ (s.lost m).2.usize = s.usize) := by
  unfold Pt.lost
  by_cases hc : s.counts m = true
  · rw [if_pos hc]
    have := (counts_iff s m).1 hc
    split
    · exact ⟨⟨rfl, rfl, rfl, fun h => ⟨rfl, h⟩⟩, (fun h => by cases h), fun _ => ⟨rfl, rfl, rfl⟩⟩
    · exact ⟨⟨rfl, rfl, rfl, fun h => by have h : (1 : Int) = 2 ∨ (1 : Int) = 3 := h; omega⟩, fun _ => ⟨by omega, rfl, rfl⟩, (fun h => by cases h)⟩
  · rw [if_neg hc]
    exact ⟨Step.refl s, (fun h => by cases h), fun _ => ⟨rfl, rfl, rfl⟩⟩
/-- What holds at the head of a round of ProbeWithin: the path s; A: what was acknowledged; the numbers that the statement keeps. -/
structure Wi (c : Cfg) (s : Pt) (A : List Int) (number under size last : Int) : Prop where
  inv : Inv number s
  cfg : s.cfg = c
  num : s.number = number
  und : s.unum = under
  sz : 0 < under → s.usize = size
  last : s.now = last
  low : s.state = 2 ∨ s.state = 3 → s.low ≤ s.base ∨ s.low ∈ A
/-- What holds behind the switch of a round: u is the number under way by the statement's count, but for what a state at its end makes of it. -/
structure Sw (c : Cfg) (s t : Pt) (A : List Int) (number u size last : Int) : Prop where
  wi : Wi c t A number (if t.state = 3 ∨ t.state = 4 then 0 else u) size last
  floor : floorOf c.v ≤ t.size
  most : t.size ≤ c.most
  st : 1 ≤ t.state ∧ t.state ≤ 4
  known : t.size ≤ c.base ∨ t.size ∈ A
theorem size_in {K : Int} {t : Pt} {A : List Int} (h : Inv K t) (hl : t.state = 2 ∨ t.state = 3 → t.low ≤ t.base ∨ t.low ∈ A) : floorOf t.v ≤ t.size ∧ t.size ≤ t.most ∧ (1 ≤ t.state ∧ t.state ≤ 4) ∧ (t.size ≤ t.base ∨ t.size ∈ A) := by
  have hi : floorOf t.v ≤ t.base ∧ t.base ≤ t.most ∧ t.low ≤ t.most ∧ (t.state = 2 ∨ t.state = 3 → t.base ≤ t.low) := by unfold Inv at h; exact ⟨h.2.1, h.2.2.1, by omega, fun h => by omega⟩
  have hj : t.state = 1 ∨ t.state = 2 ∨ t.state = 3 ∨ t.state = 4 := by unfold Inv at h; omega
  clear h
  unfold Pt.size
  by_cases h1 : t.state = 1
  · rw [if_pos h1]; exact ⟨by omega, by omega, by omega, .inl (by omega)⟩
  rw [if_neg h1]
  by_cases h4 : t.state = 4
  · rw [if_pos h4]; exact ⟨by omega, by omega, by omega, .inl (by omega)⟩
  rw [if_neg h4]
  exact ⟨by omega, by omega, by omega, hl (by omega)⟩
theorem Sw.mk' {c : Cfg} {s t : Pt} {A : List Int} {number u size last : Int} (hi : Inv number t) (hc : t.cfg = c) (hn : t.number = number) (hu : ¬ (t.state = 3 ∨ t.state = 4) → t.unum = u) (hz : ¬ (t.state = 3 ∨ t.state = 4) → 0 < u → t.usize = size) (hl : t.now = last)
    (hw : t.state = 2 ∨ t.state = 3 → t.low ≤ t.base ∨ t.low ∈ A) : Sw c s t A number u size last := by
  obtain ⟨a, b, d, e⟩ := size_in hi hw
  subst hc
  refine ⟨⟨hi, rfl, hn, ?_, ?_, hl, hw⟩, a, b, d, e⟩
  · split
    · exact unum_idle hi (by assumption)
    · exact hu (by assumption)
  · split
    · intro h; omega
    · exact hz (by assumption)
section
variable {c : Cfg} {s : Pt} {A : List Int} {number under size last : Int}
theorem Wi.at_ (h : Wi c s A number under size last) {n : Int} (hl : ¬ s.late n) : Wi c ({ s with now := n } : Pt) A number under size n := by
  unfold Pt.late at hl
  exact ⟨h.inv.at_ (by omega) (by omega), h.cfg, h.num, h.und, h.sz, rfl, h.low⟩
theorem Wi.step (h : Wi c s A number under size last) {t : Pt} (hs : Step s t) (hi : Inv number t) (u : Int) (hu : ¬ (t.state = 3 ∨ t.state = 4) → t.unum = u) (hz : ¬ (t.state = 3 ∨ t.state = 4) → 0 < u → t.usize = size) : Sw c s t A number u size last := by
  refine Sw.mk' hi (hs.cfg.trans h.cfg) (hs.number.trans h.num) hu hz (hs.now.trans h.last) (fun e => ?_)
  have := hs.low e
  rw [this.1, (cfg_eq hs.cfg).2.1]
  exact h.low this.2
/-- A Next that tells a probe, and one that tells none. -/
theorem Wi.next (h : Wi c s A number under size last) {n : Int} (hl : s.now = n) :
    (0 < (s.next n).1.1 → (s.next n).1.2 = number + 1 ∧ c.base ≤ (s.next n).1.1 ∧ (s.next n).1.1 ≤ c.most ∧ Sw c s (s.next n).2 A (number + 1) (number + 1) (s.next n).1.1 last) ∧
    (¬ 0 < (s.next n).1.1 → (s.next n).1.2 = 0 ∧ Sw c s (s.next n).2 A number under size last) ∧ ((s.next n).2.state = 1 ∨ (s.next n).2.size ≤ s.size) := by
  have hN := next_says h.inv hl
  have hI := h.inv.next hl
  have hc := h.cfg
  have hcb : s.base = c.base ∧ s.most = c.most := by subst hc; exact ⟨rfl, rfl⟩
  have hlow : (s.next n).2.state = 2 ∨ (s.next n).2.state = 3 → (s.next n).2.low ≤ (s.next n).2.base ∨ (s.next n).2.low ∈ A := fun e => by
    have := hN.low e
    rw [this.1, (cfg_eq hN.cfg).2.1]
    exact h.low this.2
  refine ⟨fun e => ?_, fun e => ?_, ?_⟩
  · obtain ⟨a1, a2, a3, a4, a5, a6⟩ := hN.yes e
    refine ⟨by rw [a1, h.num], by omega, by omega, ?_⟩
    exact Sw.mk' hI (hN.cfg.trans hc) (by rw [a2, h.num]) (fun _ => by rw [a3, h.num]) (fun _ _ => a4) (hN.now.trans h.last) hlow
  · obtain ⟨a1, a2, a3, a4⟩ := hN.no e
    have hI' : Inv number (s.next n).2 := by
      have h1 := h.num
      unfold Inv at hI ⊢
      omega
    refine ⟨a2, Sw.mk' hI' (hN.cfg.trans hc) (by rw [a3, h.num]) (fun k => ?_) (fun k u => ?_) (hN.now.trans h.last) hlow⟩
    · rcases a4 with q | q | q
      · exact absurd (.inl q) k
      · exact absurd (.inr q) k
      · rw [q.1, h.und]
    · rcases a4 with q | q | q
      · exact absurd (.inl q) k
      · exact absurd (.inr q) k
      · rw [q.2, h.sz u]
  · have hS : Step { s with number := (s.next n).2.number } (s.next n).2 := ⟨hN.cfg, rfl, hN.now, hN.low⟩
    have hI2 : Inv (s.next n).2.number ({ s with number := (s.next n).2.number } : Pt) := by
      have h0 := h.inv
      have h1 : s.number ≤ (s.next n).2.number := by
        by_cases e : 0 < (s.next n).1.1
        · have := (hN.yes e).2.1; omega
        · have := (hN.no e).2.2.1; omega
      unfold Inv at h0 ⊢
      dsimp only
      omega
    exact hS.size hI2 hI
theorem Wi.acked (h : Wi c s A number under size last) (p : Int) :
    (s.acked p).1 = decide (0 < under ∧ p = under) ∧ ((0 < under ∧ p = under) → Sw c s (s.acked p).2 (A ++ [size]) number 0 size last) ∧ (¬ (0 < under ∧ p = under) → (s.acked p).2 = s) := by
  obtain ⟨a1, a2, a3⟩ := acked_says (p := p) h.inv
  rw [h.und] at a1 a2 a3
  refine ⟨a1, fun e => ?_, a2⟩
  obtain ⟨b1, b2, b3, b4, b5, b6⟩ := a3 e
  refine Sw.mk' h.inv.acked (b1.trans h.cfg) (b2.trans h.num) (fun _ => b4) (fun _ k => absurd k (by omega)) (b3.trans h.last) (fun _ => .inr ?_)
  rw [b6, h.sz e.1]
  simp
theorem Wi.same (h : Wi c s A number under size last) : Sw c s s A number under size last := h.step (Step.refl s) h.inv under (fun _ => h.und) (fun _ => h.sz)
theorem Wi.tooBig (h : Wi c s A number under size last) (p m : Int) :
    ((s.tooBig p m).1 = true → p = under ∧ m < size ∧ Sw c s (s.tooBig p m).2 A number 0 size last) ∧ ((s.tooBig p m).1 = false → (s.tooBig p m).2 = s) ∧ ((s.tooBig p m).2.size ≠ s.size → (s.tooBig p m).2.state = 4) ∧ ((s.tooBig p m).2.state = 1 ∨ (s.tooBig p m).2.size ≤ s.size) := by
  obtain ⟨a1, a2, a3, a4⟩ := tooBig_says (p := p) (m := m) h.inv
  refine ⟨fun e => ?_, a3, a4, a1.size h.inv h.inv.tooBig⟩
  obtain ⟨b1, b2, b3⟩ := a2 e
  have hu : 0 < under := by
    have h0 := h.inv
    have h1 := h.und
    have h2 : s.unum ≠ 0 := fun h3 => by
      unfold Pt.tooBig at e
      rw [if_pos h3] at e
      cases e
    unfold Inv at h0
    omega
  exact ⟨by rw [b1, h.und], by rw [← h.sz hu]; exact b2, h.step a1 h.inv.tooBig 0 (fun _ => b3) (fun _ k => absurd k (by omega))⟩
theorem Wi.got (h : Wi c s A number under size last) (m : Int) : Sw c s (s.got m) A number under size last ∧ ((s.got m).state = 1 ∨ (s.got m).size ≤ s.size) := by
  obtain ⟨a1, a2, a3⟩ := got_says (m := m) (s := s)
  exact ⟨h.step a1 h.inv.got under (fun _ => by rw [a2, h.und]) (fun _ k => by rw [a3, h.sz k]), a1.size h.inv h.inv.got⟩
theorem Wi.lost (h : Wi c s A number under size last) (m : Int) :
    ((s.lost m).1 = true → s.state ≠ 1 ∧ (s.lost m).2.state = 1 ∧ Sw c s (s.lost m).2 A number 0 size last) ∧ ((s.lost m).1 = false → (s.lost m).2.state = s.state ∧ Sw c s (s.lost m).2 A number under size last) ∧ ((s.lost m).2.state = 1 ∨ (s.lost m).2.size ≤ s.size) := by
  obtain ⟨a1, a2, a3⟩ := lost_says (m := m) (s := s)
  refine ⟨fun e => ?_, fun e => ?_, a1.size h.inv h.inv.lost⟩
  · obtain ⟨b1, b2, b3⟩ := a2 e
    exact ⟨b1, b2, h.step a1 h.inv.lost 0 (fun _ => b3) (fun _ k => absurd k (by omega))⟩
  · obtain ⟨b1, b2, b3⟩ := a3 e
    exact ⟨b1, h.step a1 h.inv.lost under (fun _ => by rw [b2, h.und]) (fun _ k => by rw [b3, h.sz k])⟩
end
section
variable {d : Cfg} {s t : Pt} {A : List Int} {nu u sz : Int} {o : Op} {x : Ans}
theorem says_next (h : Wi d ({ s with now := o.now } : Pt) A nu u sz o.now) (hl : ¬ s.late o.now) (e : o.kind = 2) (hx : x = s.says o) (ht : t = s.after o) :
    x.e = 0 ∧ x.yes = false ∧ (0 < x.a → x.b = nu + 1 ∧ d.base ≤ x.a ∧ x.a ≤ d.most ∧ Sw d s t A (nu + 1) (nu + 1) x.a o.now) ∧ (¬ 0 < x.a → x.b = 0 ∧ Sw d s t A nu u sz o.now) ∧ (t.state = 1 ∨ t.size ≤ s.size) := by
  subst hx ht
  obtain ⟨a1, a2, a3⟩ := h.next rfl
  unfold Pt.says Pt.after
  rw [if_pos e, if_pos e]
  unfold Pt.nextA
  rw [if_neg hl]
  exact ⟨rfl, rfl, fun k => ⟨(a1 k).1, (a1 k).2.1, (a1 k).2.2.1, ⟨(a1 k).2.2.2.wi, (a1 k).2.2.2.floor, (a1 k).2.2.2.most, (a1 k).2.2.2.st, (a1 k).2.2.2.known⟩⟩, fun k => ⟨(a2 k).1, ⟨(a2 k).2.wi, (a2 k).2.floor, (a2 k).2.most, (a2 k).2.st, (a2 k).2.known⟩⟩, a3⟩
theorem Sw.at' {s' : Pt} {v : Int} (h : Sw d s' t A nu u sz v) : Sw d s t A nu u sz v := ⟨h.wi, h.floor, h.most, h.st, h.known⟩
theorem says_acked (h : Wi d ({ s with now := o.now } : Pt) A nu u sz o.now) (hl : ¬ s.late o.now) (e : o.kind = 3) (hx : x = s.says o) (ht : t = s.after o) :
    x.e = 0 ∧ x.yes = decide (0 < u ∧ o.n = u) ∧ ((0 < u ∧ o.n = u) → Sw d s t (A ++ [sz]) nu 0 sz o.now) ∧ (¬ (0 < u ∧ o.n = u) → Sw d s t A nu u sz o.now ∧ t.size = s.size ∧ t.state = s.state) := by
  subst hx ht
  obtain ⟨a1, a2, a3⟩ := h.acked o.n
  have n2 : ¬ o.kind = 2 := by omega
  simp only [Pt.says, Pt.after, if_neg n2, if_pos e]
  unfold Pt.ackedA
  rw [if_neg hl]
  refine ⟨rfl, a1, fun k => (a2 k).at', fun k => ?_⟩
  show Sw d s (({ s with now := o.now } : Pt).acked o.n).2 A nu u sz o.now ∧ (({ s with now := o.now } : Pt).acked o.n).2.size = s.size ∧ (({ s with now := o.now } : Pt).acked o.n).2.state = s.state
  rw [a3 k]
  exact ⟨h.same.at', rfl, rfl⟩
theorem says_tooBig (h : Wi d ({ s with now := o.now } : Pt) A nu u sz o.now) (hl : ¬ s.late o.now) (e : o.kind = 4) (hx : x = s.says o) (ht : t = s.after o) :
    x.e = 0 ∧ (x.yes = true → o.n = u ∧ o.size < sz ∧ Sw d s t A nu 0 sz o.now) ∧ (x.yes = false → Sw d s t A nu u sz o.now ∧ t.size = s.size ∧ t.state = s.state) ∧ (t.size ≠ s.size → t.state = 4) ∧ (t.state = 1 ∨ t.size ≤ s.size) := by
  subst hx ht
  obtain ⟨a1, a2, a3, a4⟩ := h.tooBig o.n o.size
  have n2 : ¬ o.kind = 2 := by omega
  have n3 : ¬ o.kind = 3 := by omega
  simp only [Pt.says, Pt.after, if_neg n2, if_neg n3, if_pos e]
  unfold Pt.tooBigA
  rw [if_neg hl]
  refine ⟨rfl, fun k => ⟨(a1 k).1, (a1 k).2.1, (a1 k).2.2.at'⟩, fun k => ?_, a3, a4⟩
  show Sw d s (({ s with now := o.now } : Pt).tooBig o.n o.size).2 A nu u sz o.now ∧ (({ s with now := o.now } : Pt).tooBig o.n o.size).2.size = s.size ∧ (({ s with now := o.now } : Pt).tooBig o.n o.size).2.state = s.state
  rw [a2 k]
  exact ⟨h.same.at', rfl, rfl⟩
theorem says_got (h : Wi d ({ s with now := o.now } : Pt) A nu u sz o.now) (hl : ¬ s.late o.now) (e : o.kind = 5) (hx : x = s.says o) (ht : t = s.after o) :
    x.e = 0 ∧ Sw d s t A nu u sz o.now ∧ (t.state = 1 ∨ t.size ≤ s.size) := by
  subst hx ht
  obtain ⟨a1, a2⟩ := h.got o.size
  have n2 : ¬ o.kind = 2 := by omega
  have n3 : ¬ o.kind = 3 := by omega
  have n4 : ¬ o.kind = 4 := by omega
  simp only [Pt.says, Pt.after, if_neg n2, if_neg n3, if_neg n4, if_pos e]
  unfold Pt.gotA
  rw [if_neg hl]
  exact ⟨rfl, a1.at', a2⟩
theorem says_lost (h : Wi d ({ s with now := o.now } : Pt) A nu u sz o.now) (hl : ¬ s.late o.now) (e : o.kind = 6) (hx : x = s.says o) (ht : t = s.after o) :
    x.e = 0 ∧ (x.yes = true → s.state ≠ 1 ∧ t.state = 1 ∧ Sw d s t A nu 0 sz o.now) ∧ (x.yes = false → t.state = s.state ∧ Sw d s t A nu u sz o.now) ∧ (t.state = 1 ∨ t.size ≤ s.size) := by
  subst hx ht
  obtain ⟨a1, a2, a3⟩ := h.lost o.size
  have n2 : ¬ o.kind = 2 := by omega
  have n3 : ¬ o.kind = 3 := by omega
  have n4 : ¬ o.kind = 4 := by omega
  have n5 : ¬ o.kind = 5 := by omega
  simp only [Pt.says, Pt.after, if_neg n2, if_neg n3, if_neg n4, if_neg n5, if_pos e]
  unfold Pt.lostA
  rw [if_neg hl]
  exact ⟨rfl, fun k => ⟨(a1 k).1, (a1 k).2.1, (a1 k).2.2.at'⟩, fun k => ⟨(a2 k).1, (a2 k).2.at'⟩, a3⟩
theorem says_late (hl : s.late o.now) (e : 2 ≤ o.kind ∧ o.kind ≤ 6) : s.says o = ⟨0, 0, false, 1, s.size, s.state⟩ ∧ s.after o = s := by
  have ha : s.after o = s := by
    unfold Pt.after Pt.nextA Pt.ackedA Pt.tooBigA Pt.gotA Pt.lostA
    simp only [if_pos hl]
    (repeat' split) <;> rfl
  refine ⟨?_, ha⟩
  unfold Pt.says
  rw [ha]
  unfold Pt.nextA Pt.ackedA Pt.tooBigA Pt.gotA Pt.lostA
  simp only [if_pos hl]
  (repeat' split) <;> first | rfl | omega
end
end Go.Proofs.Ytmanojnhjhpokaa.PB
