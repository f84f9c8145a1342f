/- Any order of the routes finds the same: plain Lean, no program. -/
import Derived.Test.YtpaplobjmmpliaaDoorRh
namespace Go.Proofs.YtpaplobjmmpliaaDoor.Ad
set_option linter.unusedVariables false
set_option linter.unusedSimpArgs false
/-- The route that is found: none, or one of the longest that hold the address. -/
def Best (l : List Rt) (a : Addr) (st : Int × Int) : Prop :=
  (st = (0, -1) ∧ ∀ r ∈ l, a.within r.net r.bits = false) ∨ ∃ r ∈ l, a.within r.net r.bits = true ∧ st = (r.link, r.bits) ∧ ∀ q ∈ l, a.within q.net q.bits = true → q.bits ≤ r.bits
theorem within_pos {a c : Addr} {n : Int} (h : a.within c n = true) : a.maskE n = 0 ∧ c.maskE n = 0 ∧ a.mask n = c.mask n := of_decide_eq_true h
theorem within_nat {a c : Addr} {n : Int} (h : a.within c n = true) : 0 ≤ n := (maskE_zero.1 (within_pos h).1).2.1
theorem find_snoc (l : List Rt) (r : Rt) (a : Addr) : findB (l ++ [r]) a = pick a (findB l a) r := by unfold findB; rw [List.foldl_append]; rfl
theorem best_find (a : Addr) (l : List Rt) : Best l a (findB l a) := by
  have : ∀ (n : Nat) (l : List Rt), l.length = n → Best l a (findB l a) := by
    intro n
    induction n with
    | zero =>
      intro l hl
      obtain rfl := List.eq_nil_of_length_eq_zero hl
      exact .inl ⟨rfl, fun r hr => by cases hr⟩
    | succ n ih =>
      intro l hl
      obtain ⟨m, r, rfl⟩ : ∃ m r, l = m ++ [r] := by
        refine ⟨l.dropLast, l.getLast (by intro h; subst h; cases hl), ?_⟩
        rw [List.dropLast_concat_getLast]
      have h := ih m (by simpa using hl)
      rw [find_snoc]
      unfold pick
      rcases h with ⟨h1, h2⟩ | ⟨q, h1, h2, h3, h4⟩
      · rw [h1]
        by_cases hw : a.within r.net r.bits = true
        · rw [if_pos ⟨by have := within_nat hw; show (-1 : Int) < r.bits; omega, hw⟩]
          refine .inr ⟨r, List.mem_append.2 (.inr (List.mem_singleton.2 rfl)), hw, rfl, fun q hq hqw => ?_⟩
          rcases List.mem_append.1 hq with hq | hq
          · rw [h2 q hq] at hqw; cases hqw
          · obtain rfl := List.mem_singleton.1 hq; exact Int.le_refl _
        · rw [if_neg fun h => hw h.2]
          refine .inl ⟨rfl, fun q hq => ?_⟩
          rcases List.mem_append.1 hq with hq | hq
          · exact h2 q hq
          · obtain rfl := List.mem_singleton.1 hq; cases hx : a.within q.net q.bits; rfl; exact absurd hx hw
      · rw [h3]
        by_cases hw : q.bits < r.bits ∧ a.within r.net r.bits = true
        · rw [if_pos hw]
          refine .inr ⟨r, List.mem_append.2 (.inr (List.mem_singleton.2 rfl)), hw.2, rfl, fun x hx hxw => ?_⟩
          rcases List.mem_append.1 hx with hx | hx
          · have := h4 x hx hxw; omega
          · obtain rfl := List.mem_singleton.1 hx; exact Int.le_refl _
        · rw [if_neg hw]
          refine .inr ⟨q, List.mem_append.2 (.inl h1), h2, rfl, fun x hx hxw => ?_⟩
          rcases List.mem_append.1 hx with hx | hx
          · exact h4 x hx hxw
          · obtain rfl := List.mem_singleton.1 hx
            have : ¬ q.bits < x.bits := fun h => hw ⟨h, hxw⟩
            omega
  exact this _ l rfl
theorem good_one {l : List Rt} (h : goodTo l l.length) {r : Rt} (hr : r ∈ l) : r.one = true := by
  obtain ⟨i, hi⟩ := List.mem_iff_getElem?.1 hr
  obtain ⟨q, h1, h2, _⟩ := h i (List.getElem?_eq_some_iff.1 hi).1
  rw [hi] at h1; injection h1 with h1; subst h1; exact h2
theorem best_one {l s : List Rt} (hg : goodTo l l.length) (hm : ∀ r, r ∈ s ↔ r ∈ l) {a : Addr} {x y : Int × Int} (h1 : Best s a x) (h2 : Best l a y) : x = y := by
  rcases h1 with ⟨rfl, h1⟩ | ⟨r, hr, hrw, rfl, hrm⟩ <;> rcases h2 with ⟨rfl, h2⟩ | ⟨q, hq, hqw, rfl, hqm⟩
  · rfl
  · have := h1 q ((hm q).2 hq); rw [hqw] at this; cases this
  · have := h2 r ((hm r).1 hr); rw [hrw] at this; cases this
  · have hrl := (hm r).1 hr
    have e : r.bits = q.bits := by
      have := hrm q ((hm q).2 hq) hqw
      have := hqm r hrl hrw
      omega
    have o1 := one_iff.1 (good_one hg hrl)
    have o2 := one_iff.1 (good_one hg hq)
    have n1 := (within_pos hrw).2.2
    have n2 := (within_pos hqw).2.2
    rw [o1.2.2.2.2.2] at n1
    rw [o2.2.2.2.2.2, ← e, n1] at n2
    have : r = q := good_inj hg hrl hq (decide_eq_true ⟨n2, e⟩)
    rw [this]
theorem find_perm {l s : List Rt} (hg : goodTo l l.length) (hp : s.Perm l) (a : Addr) : findV s a = findV l a := by
  have : findB s a = findB l a := best_one hg (fun r => hp.mem_iff) (best_find a s) (best_find a l)
  unfold findV; rw [this]
theorem find_sort {l : List Rt} (hl : ∀ r ∈ l, r.ok) (hg : goodTo l l.length) (a : Addr) : findV (sortV l) a = findV l a := find_perm hg (sortV_sorted hl hg).perm a
end Go.Proofs.YtpaplobjmmpliaaDoor.Ad
