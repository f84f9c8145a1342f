/- A list of routes as the sort and the clone take it: its cells in one row, its order. Conditions: addresses have sixteen bytes. -/
import Derived.Test.YtpaplobjmmpliaaDoorRc
import Derived.Test.YtpaplobjmmpliaaDoorSo
import Derived.Lib.OwnBridge
namespace Go.Proofs.YtpaplobjmmpliaaDoor.Ad
set_option linter.unusedVariables false
set_option linter.unusedSimpArgs false
open Go.RowKit Go.Maps W
def flat (l : List Rt) : List Value := l.flatMap Rt.vals
theorem flat_cons (r : Rt) (l : List Rt) : flat (r :: l) = r.vals ++ flat l := by simp [flat]
theorem flat_len : ∀ {l : List Rt}, (∀ r ∈ l, r.ok) → (flat l).length = l.length * 19
  | [], _ => rfl
  | r :: l, h => by rw [flat_cons, List.length_append, vals_len (h r List.mem_cons_self), flat_len fun q hq => h q (List.mem_cons_of_mem _ hq)]; simp; omega
theorem flat_at : ∀ {l : List Rt}, (∀ r ∈ l, r.ok) → ∀ {i j : Nat} {r : Rt}, l[i]? = some r → j < 19 → (flat l)[i * 19 + j]? = r.vals[j]?
  | [], _, i, j, r, hr, _ => by cases hr
  | q :: l, h, 0, j, r, hr, hj => by
    injection hr with hr; subst hr
    rw [flat_cons, Nat.zero_mul, Nat.zero_add, List.getElem?_append_left (by rw [vals_len (h q List.mem_cons_self)]; exact hj)]
  | q :: l, h, i + 1, j, r, hr, hj => by
    rw [flat_cons, List.getElem?_append_right (by rw [vals_len (h q List.mem_cons_self)]; omega), vals_len (h q List.mem_cons_self), show (i + 1) * 19 + j - 19 = i * 19 + j by omega]
    exact flat_at (fun q hq => h q (List.mem_cons_of_mem _ hq)) (by simpa using hr) hj
theorem flat_one : ∀ (l : List Rt), ∀ u ∈ flat l, u.oneCell' = true := fun l u hu => by
  obtain ⟨r, _, hr⟩ := List.mem_flatMap.1 hu
  have := rone r
  rw [Array.all_eq_true'] at this
  exact this u (by simpa [Rt.cells] using hr)
theorem has_cells {w : World} {g o : Nat} {l : List Rt} (hl : ∀ r ∈ l, r.ok) (h : Has w g o l) : ∀ j u, (flat l)[j]? = some u → w.cell? ⟨g, o + j, none⟩ = some u := fun j u hu => by
  have hj : j < l.length * 19 := by have := (List.getElem?_eq_some_iff.1 hu).1; rwa [flat_len hl] at this
  obtain ⟨r, hr⟩ : ∃ r, l[j / 19]? = some r := ⟨_, List.getElem?_eq_getElem (by omega)⟩
  have e : j = j / 19 * 19 + j % 19 := by omega
  have h1 := flat_at hl hr (Nat.mod_lt j (show 0 < 19 by omega))
  rw [← e, hu] at h1
  have h2 := h (j / 19) r hr (j % 19) u h1.symm
  rwa [Nat.add_assoc, ← e] at h2
theorem cells_has {w : World} {g o : Nat} {l : List Rt} (hl : ∀ r ∈ l, r.ok) (h : ∀ j u, (flat l)[j]? = some u → w.cell? ⟨g, o + j, none⟩ = some u) : Has w g o l := fun i r hr j v hv => by
  have hj : j < 19 := by have := (List.getElem?_eq_some_iff.1 hv).1; rwa [vals_len (hl r (List.mem_of_getElem? hr))] at this
  rw [Nat.add_assoc]
  exact h _ v (by rw [flat_at hl hr hj]; exact hv)
/-- What the sort asks of two routes. -/
def Rt.cmp (x y : Rt) : Int := if x.net.less y.net = true then -1 else if y.net.less x.net = true then 1 else Lib.compareInt x.bits y.bits
theorem cmp_lt {x y : Rt} (hx : x.ok) (hy : y.ok) : decide (x.cmp y < 0) = x.ahead y := by
  unfold Rt.cmp Rt.ahead
  by_cases e : x.net = y.net
  · rw [if_pos e, e, less_self, if_neg (by simp), if_neg (by simp)]
    unfold Lib.compareInt
    by_cases h1 : x.bits < y.bits
    · rw [if_pos h1]; simp [h1]
    · rw [if_neg h1]
      split <;> simp [h1]
  · rw [if_neg e]
    have h1 := less_one hx hy e
    cases h2 : x.net.less y.net with
    | true => rw [if_pos rfl]; rfl
    | false =>
      rw [h2] at h1
      have h3 : y.net.less x.net = true := by cases h4 : y.net.less x.net; rw [h4] at h1; exact absurd rfl h1; rfl
      rw [if_neg (by simp), if_pos h3]; rfl
theorem same_ahead {x y z : Rt} (h : x.same y = true) : x.ahead z = y.ahead z := by
  unfold Rt.same at h
  have h := of_decide_eq_true h
  unfold Rt.ahead; rw [h.1, h.2]
theorem ahead_not {x y z : Rt} (hx : x.ok) (hy : y.ok) (hz : z.ok) (h1 : x.ahead y = false) (h2 : y.ahead z = false) : x.ahead z = false := by
  cases h3 : x.ahead z with
  | false => rfl
  | true =>
    cases hs : x.same y with
    | true => rw [same_ahead hs, h2] at h3; cases h3
    | false =>
      rcases ahead_total hx hy hs with h | h
      · rw [h1] at h; cases h
      · have := ahead_on hy hx hz h h3
        rw [h2] at this; cases this
/-- The members of a good list: no two of one net. -/
theorem good_at {l : List Rt} (h : goodTo l l.length) {i j : Nat} {x y : Rt} (hi : l[i]? = some x) (hj : l[j]? = some y) (hij : i < j) : x.same y = false := by
  obtain ⟨r, h1, _, h2⟩ := h j (List.getElem?_eq_some_iff.1 hj).1
  obtain ⟨q, h3, h4⟩ := h2 i hij
  rw [hi] at h3; rw [hj] at h1
  injection h3 with h3; injection h1 with h1
  subst h3; subst h1; exact h4
theorem same_symm {x y : Rt} (h : x.same y = false) : y.same x = false := by
  unfold Rt.same at h ⊢
  have h := of_decide_eq_false h
  exact decide_eq_false fun e => h ⟨e.1.symm, e.2.symm⟩
theorem good_pair {l : List Rt} (h : goodTo l l.length) : l.Pairwise fun x y => x.same y = false :=
  List.pairwise_iff_getElem.2 fun i j hi hj hij => good_at h (List.getElem?_eq_getElem hi) (List.getElem?_eq_getElem hj) hij
theorem good_inj {l : List Rt} (h : goodTo l l.length) {x y : Rt} (hx : x ∈ l) (hy : y ∈ l) (hs : x.same y = true) : x = y := by
  obtain ⟨i, hi⟩ := List.mem_iff_getElem?.1 hx
  obtain ⟨j, hj⟩ := List.mem_iff_getElem?.1 hy
  rcases Nat.lt_trichotomy i j with h1 | rfl | h1
  · rw [good_at h hi hj h1] at hs; cases hs
  · rw [hi] at hj; injection hj
  · have := same_symm (good_at h hj hi h1)
    rw [this] at hs; cases hs
/-- A list's order. -/
def sortV (l : List Rt) : List Rt := (l.attach.mergeSort fun x y => !decide (y.val.cmp x.val < 0)).map (·.val)
theorem sortV_sorted {l : List Rt} (hl : ∀ r ∈ l, r.ok) (hg : goodTo l l.length) : Sorted l (sortV l) := by
  have hp : (sortV l).Perm l := by
    unfold sortV
    have := (List.mergeSort_perm l.attach fun x y => !decide (y.val.cmp x.val < 0)).map (·.val)
    simpa using this
  refine ⟨hp, ?_⟩
  have h1 : (l.attach.mergeSort fun x y => !decide (y.val.cmp x.val < 0)).Pairwise fun x y => (!decide (y.val.cmp x.val < 0)) = true := by
    refine List.pairwise_mergeSort ?_ ?_ _
    · intro a b c h1 h2
      rw [cmp_lt (hl _ b.property) (hl _ a.property)] at h1
      rw [cmp_lt (hl _ c.property) (hl _ b.property)] at h2
      rw [cmp_lt (hl _ c.property) (hl _ a.property)]
      simp only [Bool.not_eq_true'] at h1 h2 ⊢
      exact ahead_not (hl _ c.property) (hl _ b.property) (hl _ a.property) h2 h1
    · intro a b
      rw [cmp_lt (hl _ b.property) (hl _ a.property), cmp_lt (hl _ a.property) (hl _ b.property)]
      cases h1 : b.val.ahead a.val with
      | false => rfl
      | true => rw [ahead_asym (hl _ b.property) (hl _ a.property) h1]; rfl
  have h2 : (sortV l).Pairwise fun x y => x.ahead y = true ∨ x.same y = true := by
    unfold sortV
    rw [List.pairwise_map]
    refine h1.imp fun {a b} h => ?_
    rw [cmp_lt (hl _ b.property) (hl _ a.property)] at h
    have h : b.val.ahead a.val = false := by simpa using h
    cases hs : a.val.same b.val with
    | true => exact .inr rfl
    | false =>
      rcases ahead_total (hl _ a.property) (hl _ b.property) hs with h3 | h3
      · exact .inl h3
      · rw [h] at h3; cases h3
  have h3 : (sortV l).Pairwise fun x y => x.same y = false := (hp.pairwise_iff fun {x y} h => same_symm h).2 (good_pair hg)
  refine (h2.and h3).imp fun {a b} h => ?_
  rcases h.1 with h4 | h4
  · exact h4
  · rw [h.2] at h4; cases h4
end Go.Proofs.YtpaplobjmmpliaaDoor.Ad
