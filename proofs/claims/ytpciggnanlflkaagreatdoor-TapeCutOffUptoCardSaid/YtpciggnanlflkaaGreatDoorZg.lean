/- A tape's text cut off: plain; places in texts. Conditions: none beyond those that each theorem states. -/
import Derived.Test.YtpciggnanlflkaaGreatDoorZe
namespace Go.Proofs.YtpciggnanlflkaaGreatDoor.Ad
set_option linter.unusedVariables false
set_option linter.unusedSimpArgs false
open Go.RowKit Go.Maps W
/-- Lines, each with its end. -/
def endsT (L : List (List UInt8)) : List UInt8 := L.flatMap fun p => p ++ [10]
theorem endsT_cons (p : List UInt8) (L : List (List UInt8)) : endsT (p :: L) = p ++ 10 :: endsT L := by unfold endsT; simp
theorem print_ends (x : Tp) : printT x = endsT (headL x.snap :: x.recs.map lineT) := by
  rw [print_is, endsT_cons]
  congr 2
  unfold linesT endsT
  rw [List.flatMap_map]
/-- The front of lines: whole ones, and the front of the next. -/
theorem ends_take : ∀ (L : List (List UInt8)) (m : Nat), m < (endsT L).length → ∃ (j : Nat) (p part : List UInt8), L[j]? = some p ∧ part <+: p ∧ (endsT L).take m = endsT (L.take j) ++ part
  | [], m, h => by simp [endsT] at h
  | p :: L, m, h => by
    rw [endsT_cons] at h ⊢
    by_cases hm : m ≤ p.length
    · refine ⟨0, p, p.take m, rfl, List.take_prefix _ _, ?_⟩
      rw [List.take_append_of_le_length hm]; rfl
    · rw [List.length_append, List.length_cons] at h
      obtain ⟨j, q, part, h1, h2, h3⟩ := ends_take L (m - p.length - 1) (by omega)
      refine ⟨j + 1, q, part, by simpa using h1, h2, ?_⟩
      rw [List.take_succ_cons, endsT_cons, List.take_append, List.take_of_length_le (by omega), show m - p.length = (m - p.length - 1) + 1 by omega, List.take_succ_cons, h3]
      simp
theorem plain_front {p part : List UInt8} (h : part <+: p) (hp : (10 : UInt8) ∉ p) : (10 : UInt8) ∉ part := fun hm => hp (h.subset hm)
theorem cuts_ends : ∀ (L : List (List UInt8)) (part : List UInt8), (∀ p ∈ L, (10 : UInt8) ∉ p) → (10 : UInt8) ∉ part → cuts 10 (endsT L ++ part) = L ++ [part]
  | [], part, _, h => by rw [show endsT [] = [] from rfl, List.nil_append, cuts_none _ _ h]; rfl
  | p :: L, part, h, h2 => by
    rw [endsT_cons, List.append_assoc, List.cons_append, cuts_at _ _ _ (h p List.mem_cons_self), cuts_ends L part (fun q hq => h q (List.mem_cons_of_mem _ hq)) h2]; rfl
theorem count_ends : ∀ (L : List (List UInt8)) (part : List UInt8), (∀ p ∈ L, (10 : UInt8) ∉ p) → (10 : UInt8) ∉ part → (endsT L ++ part).count 10 = L.length := by
  intro L part h h2
  have h3 := cuts_len 10 (endsT L ++ part)
  rw [cuts_ends L part h h2, List.length_append] at h3
  simp only [List.length_cons, List.length_nil] at h3
  omega
theorem last_ends {L : List (List UInt8)} (h : L ≠ []) : (endsT L).getLast? = some 10 := by
  obtain ⟨M, p, rfl⟩ : ∃ M p, L = M ++ [p] := ⟨L.dropLast, L.getLast h, (List.dropLast_concat_getLast h).symm⟩
  unfold endsT
  rw [List.flatMap_append]
  simp
theorem plain_lines (x : Tp) : ∀ p ∈ headL x.snap :: x.recs.map lineT, (10 : UInt8) ∉ p := fun p hp => by
  rcases List.mem_cons.1 hp with rfl | hp
  · exact headL_plain _
  · obtain ⟨r, _, rfl⟩ := List.mem_map.1 hp
    exact line_plain r
theorem allV_start {s : Int} : ∀ {l : List Rec} {f : Int} (k : Nat), allV s f l = true → allV s f (l.take k) = true := by
  intro l f k h
  rw [← List.take_append_drop k l, allV_app, Bool.and_eq_true] at h
  exact h.1
/-- What Parse answers of a right tape's text cut off. -/
theorem parse_cutoff {x : Tp} (h : rightV x = true) {m : Nat} (hm : m < (printT x).length) :
    (((printT x).take m).getLast? = some 10 ∧ (parseV ((printT x).take m)).2 = (0, 0) ∧ ((parseV ((printT x).take m)).1.recs.length : Int) = ((printT x).take m).count 10 - 1) ∨
    (((printT x).take m).getLast? ≠ some 10 ∧ (parseV ((printT x).take m)).2 = (((((printT x).take m).count 10 : Nat) : Int) + 1, 2)) := by
  obtain ⟨h1, h2, h3, h4⟩ := right_split h
  rw [print_ends] at hm ⊢
  obtain ⟨j, p, part, hj, hpre, ht⟩ := ends_take _ m hm
  have hpl := plain_lines x
  have hpart := plain_front hpre (hpl p (List.mem_of_getElem? hj))
  have hL : ∀ q ∈ (headL x.snap :: x.recs.map lineT).take j, (10 : UInt8) ∉ q := fun q hq => hpl q (List.mem_of_mem_take hq)
  have hlen : j < (headL x.snap :: x.recs.map lineT).length := (List.getElem?_eq_some_iff.1 hj).1
  rw [List.length_cons, List.length_map] at hlen
  have hcount := count_ends _ _ hL hpart
  rw [List.length_take, List.length_cons, List.length_map] at hcount
  have hc := cuts_ends _ _ hL hpart
  rw [ht, hcount]
  cases j with
  | zero =>
    right
    have he : endsT ((headL x.snap :: x.recs.map lineT).take 0) ++ part = part := rfl
    rw [he] at hc ⊢
    refine ⟨fun hl => hpart (List.mem_of_getLast? hl), ?_⟩
    rw [parse_cuts, hc]; rfl
  | succ j =>
    rw [List.take_succ_cons] at hc ⊢
    rw [endsT_cons, List.append_assoc, List.cons_append] at hc
    have hf : endsT (headL x.snap :: (x.recs.map lineT).take j) ++ part = headL x.snap ++ 10 :: (endsT ((x.recs.map lineT).take j) ++ part) := by rw [endsT_cons, List.append_assoc, List.cons_append]
    have hc2 : cuts 10 (endsT ((x.recs.map lineT).take j) ++ part) = (x.recs.take j).map lineT ++ [part] := by
      rw [cuts_ends _ _ (fun q hq => hL q (by rw [List.take_succ_cons]; exact List.mem_cons_of_mem _ hq)) hpart, List.map_take]
    have hp : parseV (endsT (headL x.snap :: (x.recs.map lineT).take j) ++ part) = goP x.snap (2 + (x.recs.take j).length) (lastV 0 (x.recs.take j)) (x.recs.take j) [part] := by
      rw [hf, parse_front h1 h2, hc2, goP_lines _ _ _ _ _ (by omega) (allV_start j h4) (by simp; omega) (by simp), List.nil_append]
    have hjl : (x.recs.take j).length = j := by rw [List.length_take]; omega
    rw [hp, goP]
    by_cases he : part = []
    · left
      subst he
      rw [if_pos rfl, List.append_nil]
      refine ⟨last_ends (by simp), rfl, ?_⟩
      simp only
      omega
    · right
      rw [if_neg he]
      refine ⟨?_, ?_⟩
      · obtain ⟨z, hz⟩ : ∃ z, part.getLast? = some z := by
          cases e : part.getLast? with
          | none => exact absurd (List.getLast?_eq_none_iff.1 e) he
          | some z => exact ⟨z, rfl⟩
        rw [List.getLast?_append, hz]
        intro hl
        have hl : some z = some 10 := by simpa using hl
        injection hl with hl
        subst hl
        exact hpart (List.mem_of_getLast? hz)
      · simp only [hjl]
        congr 1
        omega
theorem run_cutoff2 {p : Option Go.Addr} {n c m : Nat} (hm : m ≤ c) (hp : p = none → c = 0) (w : World) : (Instr.slice 26 (.slice p n c) none (some (.int .i64 (m : Int))) none).run Tryz.prog w = .ok (.slice p m c) w := by
  cases p with
  | none =>
    obtain rfl := hp rfl
    obtain rfl : m = 0 := by omega
    exact run_cutoff (by omega) (by unfold maxLen; omega) (fun _ => rfl) w
  | some a =>
    go_simp
theorem run_sindex {l : List UInt8} {k : Nat} {c : UInt8} (h : l[k]? = some c) (w : World) : (Instr.index 9 (.string (S l)) (.int .i64 (k : Int))).run Tryz.prog w = .ok (.int .u8 (c.toNat : Int)) w := by
  have hk : k < (S l).size := by rw [S_size]; exact (List.getElem?_eq_some_iff.1 h).1
  have e : (S l)[k]'hk = c := by have h2 := (List.getElem?_eq_some_iff.1 h).2; rw [← h2]; rfl
  go_simp
theorem run_ssub {l : List UInt8} {m : Nat} (h : m ≤ l.length) (w : World) : (Instr.slice 9 (.string (S l)) none (some (.int .i64 (m : Int))) none).run Tryz.prog w = .ok (.string (S (l.take m))) w := by
  have hm : m ≤ (S l).size := by rw [S_size]; exact h
  have e : (S l).extract 0 m = S (l.take m) := by
    apply ByteArray.ext
    apply Array.toList_inj.1
    simp [S]
  go_simp
end Go.Proofs.YtpciggnanlflkaaGreatDoor.Ad
