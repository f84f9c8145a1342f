/- Routes, which lists of them may be, their order, and the route that is found: plain Lean, no program. -/
import Derived.Test.YtpaplobjmmpliaaDoorAo
import Derived.Test.YtpaplobjmmpliaaDoorBw
namespace Go.Proofs.YtpaplobjmmpliaaDoor.Ad
set_option linter.unusedVariables false
set_option linter.unusedSimpArgs false
structure Rt where
  net : Addr
  bits : Int
  link : Int
  deriving DecidableEq
namespace Rt
def ok (r : Rt) : Prop := r.net.ok
/-- Does x come ahead of y. -/
def ahead (x y : Rt) : Bool := if x.net = y.net then decide (x.bits < y.bits) else x.net.less y.net
def same (x y : Rt) : Bool := decide (x.net = y.net ∧ x.bits = y.bits)
def one (r : Rt) : Bool := decide (r.net.maskE r.bits = 0 ∧ r.net.mask r.bits = r.net ∧ 0 ≤ r.link ∧ r.link < 16)
end Rt
/-- The first k routes do well: each may be, and no two lead to one net. -/
def goodTo (l : List Rt) (k : Nat) : Prop := ∀ i, i < k → ∃ r, l[i]? = some r ∧ r.one = true ∧ ∀ j, j < i → ∃ q, l[j]? = some q ∧ q.same r = false
def goodB (l : List Rt) (k : Nat) : Bool := (List.range k).all fun i => match l[i]? with
  | some r => r.one && (List.range i).all fun j => match l[j]? with
    | some q => !q.same r
    | none => false
  | none => false
theorem goodB_iff (l : List Rt) (k : Nat) : goodB l k = true ↔ goodTo l k := by
  unfold goodB goodTo
  rw [List.all_eq_true]
  refine forall_congr' fun i => ?_
  rw [List.mem_range]
  refine forall_congr' fun hi => ?_
  cases h : l[i]? with
  | none => simp
  | some r =>
    simp only [Option.some.injEq, exists_eq_left', Bool.and_eq_true, List.all_eq_true, List.mem_range]
    refine and_congr_right fun _ => forall_congr' fun j => forall_congr' fun hj => ?_
    cases l[j]? with
    | none => simp
    | some q => simp
def mayV (l : List Rt) : Bool := decide (l.length ≤ 32) && goodB l l.length
theorem mayV_iff (l : List Rt) : mayV l = true ↔ l.length ≤ 32 ∧ goodTo l l.length := by unfold mayV; rw [Bool.and_eq_true, goodB_iff, decide_eq_true_iff]
theorem goodTo_zero (l : List Rt) : goodTo l 0 := fun i h => absurd h (Nat.not_lt_zero i)
theorem goodTo_step {l : List Rt} {k : Nat} {r : Rt} (hr : l[k]? = some r) : goodTo l (k + 1) ↔ goodTo l k ∧ r.one = true ∧ ∀ j, j < k → ∃ q, l[j]? = some q ∧ q.same r = false := by
  constructor
  · intro h
    refine ⟨fun i hi => h i (by omega), ?_⟩
    obtain ⟨r', h1, h2⟩ := h k (by omega)
    rw [hr] at h1; injection h1 with h1; subst h1; exact h2
  · rintro ⟨h1, h2⟩ i hi
    by_cases e : i = k
    · subst e; exact ⟨r, hr, h2⟩
    · exact h1 i (by omega)
theorem goodTo_mono {l : List Rt} {k n : Nat} (h : goodTo l n) (hk : k ≤ n) : goodTo l k := fun i hi => h i (by omega)
/-- The link and the length so far, and with one route more. -/
def pick (a : Addr) (s : Int × Int) (r : Rt) : Int × Int := if s.2 < r.bits ∧ a.within r.net r.bits = true then (r.link, r.bits) else s
def findB (l : List Rt) (a : Addr) : Int × Int := l.foldl (pick a) (0, -1)
def findV (l : List Rt) (a : Addr) : Int × Int := if a.valid = true then (if (findB l a).2 < 0 then (0, 210) else ((findB l a).1, 0)) else (0, 1)
theorem findB_take {l : List Rt} {k : Nat} {r : Rt} (hr : l[k]? = some r) (a : Addr) : findB (l.take (k + 1)) a = pick a (findB (l.take k) a) r := by
  unfold findB
  rw [List.take_add_one, hr]
  simp
/-- The order. -/
theorem ahead_self (x : Rt) : x.ahead x = false := by unfold Rt.ahead; rw [if_pos rfl]; simp
theorem ahead_total {x y : Rt} (hx : x.ok) (hy : y.ok) (h : x.same y = false) : x.ahead y = true ∨ y.ahead x = true := by
  unfold Rt.same at h
  have h := of_decide_eq_false h
  unfold Rt.ahead
  by_cases e : x.net = y.net
  · rw [if_pos e, if_pos e.symm]
    have : ¬ x.bits = y.bits := fun b => h ⟨e, b⟩
    rcases Int.lt_or_gt_of_ne this with h | h
    · exact .inl (decide_eq_true h)
    · exact .inr (decide_eq_true h)
  · rw [if_neg e, if_neg fun h => e h.symm]
    have := less_one hx hy e
    revert this
    cases x.net.less y.net <;> cases y.net.less x.net <;> simp
theorem less_asym {a b : Addr} (ha : a.ok) (hb : b.ok) (h : a.less b = true) : b.less a = false := by
  cases h2 : b.less a with
  | false => rfl
  | true =>
    have := less_on ha hb ha h h2
    rw [less_self] at this; cases this
theorem ahead_asym {x y : Rt} (hx : x.ok) (hy : y.ok) (h : x.ahead y = true) : y.ahead x = false := by
  unfold Rt.ahead at h ⊢
  by_cases e : x.net = y.net
  · rw [if_pos e] at h; rw [if_pos e.symm]
    have := of_decide_eq_true h
    exact decide_eq_false (by omega)
  · rw [if_neg e] at h; rw [if_neg fun h => e h.symm]
    exact less_asym hx hy h
theorem ahead_on {x y z : Rt} (hx : x.ok) (hy : y.ok) (hz : z.ok) (h1 : x.ahead y = true) (h2 : y.ahead z = true) : x.ahead z = true := by
  unfold Rt.ahead at h1 h2 ⊢
  by_cases e1 : x.net = y.net
  · rw [if_pos e1] at h1
    by_cases e2 : y.net = z.net
    · rw [if_pos e2] at h2; rw [if_pos (e1.trans e2)]
      have := of_decide_eq_true h1; have := of_decide_eq_true h2
      exact decide_eq_true (by omega)
    · rw [if_neg e2] at h2; rw [if_neg fun h => e2 (e1.symm.trans h), e1]; exact h2
  · rw [if_neg e1] at h1
    by_cases e2 : y.net = z.net
    · rw [if_neg fun h => e1 (h.trans e2.symm), ← e2]; exact h1
    · rw [if_neg e2] at h2
      have h3 := less_on hx hy hz h1 h2
      by_cases e3 : x.net = z.net
      · rw [e3, less_self] at h3; cases h3
      · rw [if_neg e3]; exact h3
/-- The list in its order: strictly, the same routes. -/
structure Sorted (l s : List Rt) : Prop where
  perm : s.Perm l
  lt : s.Pairwise fun x y => x.ahead y = true
theorem Sorted.len {l s : List Rt} (h : Sorted l s) : s.length = l.length := h.perm.length_eq
theorem Sorted.at {l s : List Rt} (h : Sorted l s) {i j : Nat} {x y : Rt} (hi : s[i]? = some x) (hj : s[j]? = some y) (hij : i < j) : x.ahead y = true := by
  obtain ⟨hi', rfl⟩ := List.getElem?_eq_some_iff.1 hi
  obtain ⟨hj', rfl⟩ := List.getElem?_eq_some_iff.1 hj
  exact List.pairwise_iff_getElem.1 h.lt i j hi' hj' hij
theorem Sorted.one {l s t : List Rt} (hl : ∀ x ∈ l, x.ok) (h : Sorted l s) (h2 : Sorted l t) : s = t := by
  have : ∀ s t : List Rt, s.Perm t → (∀ x ∈ s, x.ok) → s.Pairwise (fun x y => x.ahead y = true) → t.Pairwise (fun x y => x.ahead y = true) → s = t := by
    intro s
    induction s with
    | nil => intro t hp _ _ _; exact (List.Perm.nil_eq hp)
    | cons x s ih =>
      intro t hp ho hs ht
      cases t with
      | nil => exact absurd hp (by intro h; exact absurd (List.Perm.length_eq h) (by simp))
      | cons y t =>
        have hxy : x = y := by
          have h1 : x ∈ y :: t := hp.subset List.mem_cons_self
          have h2 : y ∈ x :: s := hp.symm.subset List.mem_cons_self
          rcases List.mem_cons.1 h1 with e | h1
          · exact e
          · rcases List.mem_cons.1 h2 with e | h2
            · exact e.symm
            · have a1 := (List.pairwise_cons.1 ht).1 x h1
              have a2 := (List.pairwise_cons.1 hs).1 y h2
              have := ahead_asym (ho x List.mem_cons_self) (ho y (List.mem_cons_of_mem _ h2)) a2
              rw [a1] at this; cases this
        subst hxy
        rw [ih t (List.Perm.cons_inv hp) (fun z hz => ho z (List.mem_cons_of_mem _ hz)) (List.pairwise_cons.1 hs).2 (List.pairwise_cons.1 ht).2]
  exact this s t (h.perm.trans h2.perm.symm) (fun x hx => hl x (h.perm.subset hx)) h.lt h2.lt
/-- The least route behind the k-th is the next. -/
theorem Sorted.next {l s : List Rt} (hl : ∀ x ∈ l, x.ok) (h : Sorted l s) {k : Nat} {y : Rt} (hk : k < s.length) (hy : y ∈ l)
    (hb : ∀ x, 0 < k → s[k - 1]? = some x → x.ahead y = true) (hm : ∀ z ∈ l, (∀ x, 0 < k → s[k - 1]? = some x → x.ahead z = true) → z.ahead y = false) : s[k]? = some y := by
  obtain ⟨p, hp⟩ := List.mem_iff_getElem?.1 (h.perm.symm.subset hy)
  have hpl : p < s.length := (List.getElem?_eq_some_iff.1 hp).1
  have hok : ∀ {i : Nat} {x : Rt}, s[i]? = some x → x.ok := fun hx => hl _ (h.perm.subset (List.mem_of_getElem? hx))
  rcases Nat.lt_trichotomy p k with hlt | rfl | hgt
  · obtain ⟨x, hx⟩ : ∃ x, s[k - 1]? = some x := ⟨_, List.getElem?_eq_getElem (by omega)⟩
    have h1 := hb x (by omega) hx
    by_cases e : p = k - 1
    · rw [← e, hp] at hx; injection hx with hx; subst hx; rw [ahead_self] at h1; cases h1
    · have h2 := h.at hp hx (by omega)
      have := ahead_asym (hok hp) (hok hx) h2
      rw [h1] at this; cases this
  · exact hp
  · obtain ⟨z, hz⟩ : ∃ z, s[k]? = some z := ⟨_, List.getElem?_eq_getElem hk⟩
    have h1 := hm z (h.perm.subset (List.mem_of_getElem? hz)) fun x h0 hx => h.at hx hz (by omega)
    rw [h.at hz hp hgt] at h1; cases h1
end Go.Proofs.YtpaplobjmmpliaaDoor.Ad
