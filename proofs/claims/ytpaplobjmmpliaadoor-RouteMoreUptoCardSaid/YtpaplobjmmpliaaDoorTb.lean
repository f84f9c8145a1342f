/- Another order of the routes, and one route more: plain Lean, no program. -/
import Derived.Test.YtpaplobjmmpliaaDoorRq
namespace Go.Proofs.YtpaplobjmmpliaaDoor.Ad
set_option linter.unusedVariables false
set_option linter.unusedSimpArgs false
theorem good_iff {l : List Rt} : goodTo l l.length ↔ (∀ r ∈ l, r.one = true) ∧ l.Pairwise fun x y => x.same y = false := by
  constructor
  · intro h
    exact ⟨fun r hr => good_one h hr, good_pair h⟩
  · rintro ⟨h1, h2⟩ i hi
    refine ⟨l[i], List.getElem?_eq_getElem hi, h1 _ (List.getElem_mem hi), fun j hj => ?_⟩
    have hjl : j < l.length := by omega
    exact ⟨l[j], List.getElem?_eq_getElem hjl, List.pairwise_iff_getElem.1 h2 j i hjl hi hj⟩
theorem good_perm {l s : List Rt} (hp : s.Perm l) (h : goodTo l l.length) : goodTo s s.length := by
  have h := good_iff.1 h
  exact good_iff.2 ⟨fun r hr => h.1 r (hp.subset hr), (hp.pairwise_iff fun {x y} h => same_symm h).2 h.2⟩
theorem may_perm {l s : List Rt} (hp : s.Perm l) : mayV s = mayV l := by
  rw [Bool.eq_iff_iff, mayV_iff, mayV_iff, hp.length_eq]
  exact ⟨fun h => ⟨h.1, good_perm hp.symm (by rw [hp.length_eq]; exact h.2)⟩, fun h => ⟨h.1, by have := good_perm hp h.2; rwa [hp.length_eq] at this⟩⟩
theorem sort_perm {l s : List Rt} (hl : ∀ r ∈ l, r.ok) (hp : s.Perm l) (h : goodTo l l.length) : sortV s = sortV l := by
  have h1 := sortV_sorted hl h
  have h2 := sortV_sorted (fun r hr => hl r (hp.subset hr)) (good_perm hp h)
  exact Sorted.one hl ⟨h2.perm.trans hp, h2.lt⟩ h1
theorem good_less {l : List Rt} {x : Rt} (h : goodTo (l ++ [x]) (l ++ [x]).length) : goodTo l l.length ∧ x.one = true := by
  have h := good_iff.1 h
  exact ⟨good_iff.2 ⟨fun r hr => h.1 r (List.mem_append.2 (.inl hr)), (List.pairwise_append.1 h.2).1⟩, h.1 x (List.mem_append.2 (.inr (List.mem_singleton.2 rfl)))⟩
theorem may_less {l : List Rt} {x : Rt} (h : mayV (l ++ [x]) = true) : mayV l = true ∧ x.one = true := by
  have h := (mayV_iff _).1 h
  have h2 := good_less h.2
  exact ⟨(mayV_iff l).2 ⟨by have := h.1; simp at this; omega, h2.1⟩, h2.2⟩
/-- What one route more turns. -/
theorem find_more {l : List Rt} {x : Rt} {a : Addr} (hv : a.valid = true) (hx : x.one = true) :
    (a.within x.net x.bits = false → findV (l ++ [x]) a = findV l a) ∧
    (a.within x.net x.bits = true → (findV (l ++ [x]) a = (x.link, 0) ∨ (findV (l ++ [x]) a = findV l a ∧ (findV l a).2 = 0))) := by
  unfold findV
  rw [if_pos hv, if_pos hv, find_snoc]
  constructor
  · intro hw
    have e : pick a (findB l a) x = findB l a := if_neg (by rw [hw]; simp)
    rw [e]
  · intro hw
    have h0 := within_nat hw
    by_cases h : (findB l a).2 < x.bits
    · have e : pick a (findB l a) x = (x.link, x.bits) := if_pos ⟨h, hw⟩
      left
      rw [e]
      exact if_neg (by show ¬ x.bits < 0; omega)
    · have e : pick a (findB l a) x = findB l a := if_neg fun h2 => h h2.1
      right
      have hn : ¬ (findB l a).2 < 0 := by omega
      rw [e, if_neg hn]
      exact ⟨rfl, rfl⟩
theorem find_bad {l : List Rt} {a : Addr} (hv : a.valid = false) : findV l a = (0, 1) := by unfold findV; rw [hv]; rfl
theorem within_own {x : Rt} (hx : x.one = true) : x.net.within x.net x.bits = true := by
  unfold Addr.within
  have h := of_decide_eq_true hx
  exact decide_eq_true ⟨h.1, h.1, rfl⟩
/-- The answer's error: none, no route, or an address that does not count. -/
theorem find_err (l : List Rt) (a : Addr) : (findV l a).2 = 0 ∨ (findV l a).2 = 210 ∨ (findV l a).2 = 1 := by
  unfold findV
  split
  · split
    · exact .inr (.inl rfl)
    · exact .inl rfl
  · exact .inr (.inr rfl)
/-- Of the routes that hold the address, the longest has the link that is found. -/
theorem best_link {l : List Rt} (hg : goodTo l l.length) {a : Addr} {r : Rt} (hr : r ∈ l) (hw : a.within r.net r.bits = true) (hb : r.bits = (findB l a).2) : r.link = (findB l a).1 := by
  rcases best_find a l with ⟨_, h⟩ | ⟨q, hq, hqw, he, hmx⟩
  · rw [h r hr] at hw; cases hw
  · rw [he] at hb ⊢
    have h : Best l a (r.link, r.bits) := .inr ⟨r, hr, hw, rfl, fun x hx hxw => by have := hmx x hx hxw; simp only at hb; omega⟩
    have := best_one hg (fun x => Iff.rfl) h (best_find a l)
    rw [he] at this
    exact congrArg Prod.fst this
end Go.Proofs.YtpaplobjmmpliaaDoor.Ad
