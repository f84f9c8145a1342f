/- A tape made of any, plain; a list cut off. Conditions: none beyond those that each theorem states. -/
import Derived.Test.YtpciggnanlflkaaGreatDoorZb
namespace Go.Proofs.YtpciggnanlflkaaGreatDoor.Ad
set_option linter.unusedVariables false
set_option linter.unusedSimpArgs false
open Go.RowKit Go.Maps W
def waitV (x : Int) : Int := if x < 0 then -1 - x else x
/-- A record made of any, behind one of tick a. -/
def fitR (s a : Int) (r : Rec) : Rec :=
  if s ≤ ((r.data.take 2000).length : Int) then ⟨a + waitV r.tk % 5, restV r.node 0 15, r.out, restV r.long s 65575, (r.data.take 2000).take s.toNat⟩
  else ⟨a + waitV r.tk % 5, restV r.node 0 15, r.out, ((r.data.take 2000).length : Int), r.data.take 2000⟩
def fitL (s : Int) : Int → List Rec → List Rec
  | _, [] => []
  | a, r :: l => fitR s a r :: fitL s (a + waitV r.tk % 5) l
def fitV (t : Tp) : Tp := ⟨restV t.snap 0 65575, fitL (restV t.snap 0 65575) 0 (t.recs.take 200)⟩
theorem fitR_tk (s a : Int) (r : Rec) : (fitR s a r).tk = a + waitV r.tk % 5 := by unfold fitR; split <;> rfl
theorem fitL_snoc (s : Int) (r : Rec) : ∀ (l : List Rec) (a : Int), fitL s a (l ++ [r]) = fitL s a l ++ [fitR s (lastV a (fitL s a l)) r]
  | [], a => rfl
  | x :: l, a => by
    rw [List.cons_append, fitL, fitL_snoc s r l, fitL, lastV, fitR_tk]; rfl
theorem fitL_len (s : Int) : ∀ (l : List Rec) (a : Int), (fitL s a l).length = l.length
  | [], _ => rfl
  | r :: l, a => by rw [fitL, List.length_cons, fitL_len s l, List.length_cons]
theorem waitV_in {x : Int} : 0 ≤ waitV x := by unfold waitV; split <;> omega
theorem fitR_may {s a : Int} {r : Rec} (h0 : 0 ≤ s) (h1 : s ≤ 65575) (ha : 0 ≤ a) (hb : a ≤ 1099511620000) : mayV (fitR s a r) s a = true := by
  have h2 := restV_in (n := r.node) (show (0 : Int) ≤ 15 by omega)
  have h3 := restV_in (n := r.long) h1
  have h4 : (r.data.take 2000).length ≤ 2000 := by rw [List.length_take]; omega
  have h5 := Int.emod_nonneg (waitV r.tk) (show (5 : Int) ≠ 0 by omega)
  have h6 := Int.emod_lt_of_pos (waitV r.tk) (show (0 : Int) < 5 by omega)
  rw [may_dec]
  unfold fitR
  by_cases h : s ≤ ((r.data.take 2000).length : Int)
  · rw [if_pos h]
    refine decide_eq_true ?_
    simp only
    rw [List.length_take (i := s.toNat)]
    omega
  · rw [if_neg h]
    refine decide_eq_true ?_
    simp only
    omega
theorem fitL_all {s : Int} (h0 : 0 ≤ s) (h1 : s ≤ 65575) : ∀ (l : List Rec) (a : Int), 0 ≤ a → a + 5 * l.length ≤ 1099511620000 → allV s a (fitL s a l) = true
  | [], _, _, _ => rfl
  | r :: l, a, ha, hb => by
    have h5 := Int.emod_nonneg (waitV r.tk) (show (5 : Int) ≠ 0 by omega)
    have h6 := Int.emod_lt_of_pos (waitV r.tk) (show (0 : Int) < 5 by omega)
    rw [List.length_cons] at hb
    rw [fitL, allV, fitR_may h0 h1 ha (by omega), fitR_tk, fitL_all h0 h1 l _ (by omega) (by omega)]; rfl
theorem fit_right (t : Tp) : rightV (fitV t) = true := by
  have hs := restV_in (n := t.snap) (show (0 : Int) ≤ 65575 by omega)
  have hl : (t.recs.take 200).length ≤ 200 := by rw [List.length_take]; omega
  unfold rightV fitV
  simp only
  rw [fitL_len, decide_eq_true (by omega), fitL_all hs.1 hs.2 _ 0 (by omega) (by omega)]; rfl
theorem fitL_data (s : Int) : ∀ (l : List Rec) (a : Int), ∀ r ∈ fitL s a l, r.data.length ≤ 2000
  | [], _ => fun r hr => by cases hr
  | x :: l, a => fun r hr => by
    rw [fitL] at hr
    rcases List.mem_cons.1 hr with rfl | hr
    · unfold fitR
      split
      · simp only [List.length_take]; omega
      · simp only [List.length_take]; omega
    · exact fitL_data s l _ r hr
theorem fit_small (t : Tp) : (fitV t).recs.length ≤ 200 ∧ ∀ r ∈ (fitV t).recs, r.data.length ≤ 2000 := by
  refine ⟨?_, fitL_data _ _ _⟩
  unfold fitV
  simp only
  rw [fitL_len, List.length_take]; omega
theorem own_shape {w : World} {B : Nat} {v : Value} {n : Nat} {xs : List Value} (h : w.ownsRow B 5 1 v n xs) : ∃ p c, v = .slice p n c ∧ n ≤ c ∧ c ≤ maxLen ∧ (p = none → c = 0) := by
  rcases h.2 with ⟨h1, h2⟩ | ⟨g, cap, cur, e, hB, hg, hnc, hcm, hcs, htk⟩
  · exact ⟨none, 0, by rw [h1, h2], by omega, Nat.zero_le _, fun _ => rfl⟩
  · exact ⟨_, cap, e, hnc, hcm, fun h => by cases h⟩
theorem own_front {w : World} {B : Nat} {p : Option Go.Addr} {n c m : Nat} {xs : List Value} (h : w.ownsRow B 5 1 (.slice p n c) n xs) (hm : m ≤ n) : w.ownsRow B 5 1 (.slice p m c) m (xs.take m) := by
  obtain ⟨h0, h1⟩ := h
  refine ⟨by rw [List.length_take, h0]; omega, ?_⟩
  rcases h1 with ⟨h1, h2⟩ | ⟨g, cap, cur, e, hB, hg, hnc, hcm, hcs, htk⟩
  · injection h1 with h3 h4 h5
    obtain rfl : m = 0 := by omega
    exact .inl ⟨by rw [h3, h5], rfl⟩
  · injection e with e1 e2 e3
    refine .inr ⟨g, cap, cur, by rw [e1, e3], hB, hg, by omega, hcm, hcs, ?_⟩
    rw [← htk, List.take_take]
    congr 1; omega
theorem run_cutoff {p : Option Go.Addr} {n c m : Nat} (hm : m ≤ c) (hc : c ≤ maxLen) (hp : p = none → c = 0) (w : World) : (Instr.slice 26 (.slice p n c) none (some (.int .i64 (m : Int))) none).run Tryz.prog w = .ok (.slice p m c) w := by
  unfold maxLen at hc
  cases p with
  | none =>
    obtain rfl := hp rfl
    obtain rfl : m = 0 := by omega
    first | kernel_rfl | go_simp
  | some a =>
    go_simp
end Go.Proofs.YtpciggnanlflkaaGreatDoor.Ad
