/- Contracts of the reference path's leaf methods: each turns the record as the Lean function of the same name does. Conditions: the path lies in one block that is known whole, its numbers are small. -/
import Derived.Test.YtmanojnhjhpokaaRD
import Derived.Test.YtmanojnhjhpokaaPC
import Derived.Deep.LoopGhost
import Derived.Deep.DeepCutAuto
import Derived.Deep.CutBlock
namespace Go.Proofs.Ytmanojnhjhpokaa.PB
set_option linter.unusedVariables false
set_option linter.unusedSimpArgs false
open Go.RowKit
def Rt.cells (r : Rt) : Array Value := #[.int .i64 r.v, .int .i64 r.base, .int .i64 r.most, .int .i64 r.mtries, .int .i64 r.mlosses, .int .i64 r.wait, .int .i64 r.raise, .int .i64 r.st, .int .i64 r.low, .int .i64 r.high, .int .i64 r.hint, .bool r.told, .int .i64 r.tries, .bool r.is, .int .i64 r.number, .int .i64 r.usize, .int .i64 r.at_, .int .i64 r.losses, .int .i64 r.since, .int .i64 r.last, .int .i64 r.given]
abbrev Ri (w : World) (g : Nat) (r : Rt) : Prop := Blk w g 70 r.cells
theorem Ri.all {w : World} {g : Nat} {r : Rt} (h : Ri w g r) : w.cell? ⟨g, 0, none⟩ = some (.int .i64 r.v) ∧ w.cell? ⟨g, 1, none⟩ = some (.int .i64 r.base) ∧ w.cell? ⟨g, 2, none⟩ = some (.int .i64 r.most) ∧ w.cell? ⟨g, 3, none⟩ = some (.int .i64 r.mtries) ∧ w.cell? ⟨g, 4, none⟩ = some (.int .i64 r.mlosses) ∧ w.cell? ⟨g, 5, none⟩ = some (.int .i64 r.wait) ∧ w.cell? ⟨g, 6, none⟩ = some (.int .i64 r.raise) ∧ w.cell? ⟨g, 7, none⟩ = some (.int .i64 r.st) ∧ w.cell? ⟨g, 8, none⟩ = some (.int .i64 r.low) ∧ w.cell? ⟨g, 9, none⟩ = some (.int .i64 r.high) ∧ w.cell? ⟨g, 10, none⟩ = some (.int .i64 r.hint) ∧ w.cell? ⟨g, 11, none⟩ = some (.bool r.told) ∧ w.cell? ⟨g, 12, none⟩ = some (.int .i64 r.tries) ∧ w.cell? ⟨g, 13, none⟩ = some (.bool r.is) ∧ w.cell? ⟨g, 14, none⟩ = some (.int .i64 r.number) ∧ w.cell? ⟨g, 15, none⟩ = some (.int .i64 r.usize) ∧ w.cell? ⟨g, 16, none⟩ = some (.int .i64 r.at_) ∧ w.cell? ⟨g, 17, none⟩ = some (.int .i64 r.losses) ∧ w.cell? ⟨g, 18, none⟩ = some (.int .i64 r.since) ∧ w.cell? ⟨g, 19, none⟩ = some (.int .i64 r.last) ∧ w.cell? ⟨g, 20, none⟩ = some (.int .i64 r.given) :=
  ⟨h.cell 0, h.cell 1, h.cell 2, h.cell 3, h.cell 4, h.cell 5, h.cell 6, h.cell 7, h.cell 8, h.cell 9, h.cell 10, h.cell 11, h.cell 12, h.cell 13, h.cell 14, h.cell 15, h.cell 16, h.cell 17, h.cell 18, h.cell 19, h.cell 20⟩
theorem drewN_twice (w : World) (a b : Nat) : (w.drewN a).drewN b = w.drewN (a + b) := by simp [World.drewN, Nat.add_assoc]
/-- Numbers of which no sum wraps. -/
structure Rm (r : Rt) : Prop where
  most : 0 ≤ r.most ∧ r.most ≤ 65535
  low : 0 ≤ r.low ∧ r.low ≤ 65535
  high : 0 ≤ r.high ∧ r.high ≤ 65536
  tries : 0 ≤ r.tries ∧ r.tries ≤ 65535
  losses : 0 ≤ r.losses ∧ r.losses ≤ 65535
  given : 0 ≤ r.given ∧ r.given ≤ 1125899906842624
  at_ : 0 ≤ r.at_ ∧ r.at_ ≤ 1099511627776
  since : 0 ≤ r.since ∧ r.since ≤ 1099511627776
  last : 0 ≤ r.last ∧ r.last ≤ 1099511627776
theorem rfloor_calls (v : Int) (w : World) : Calls Try.prog 27 #[.int .i64 v] w fun e w' => e = .returned (.int .i64 (floorOf v)) ∧ w = w' := by
  unfold floorOf
  by_cases h : v = 6
  · rw [if_pos h]
    have h' : (v == 6) = true := beq_iff_eq.2 h
    clear h
    go_enter Try.func27, Try.ntmps27
    go_wp2
    go_ret
    exact ⟨rfl, rfl⟩
  · rw [if_neg h]
    have h' : (v == 6) = false := beq_eq_false_iff_ne.2 h
    clear h
    go_enter Try.func27, Try.ntmps27
    go_wp2
    go_ret
    exact ⟨rfl, rfl⟩
set_option maxRecDepth 100000 in
set_option maxHeartbeats 2000000 in
theorem rstate_calls (r : Rt) (g : Nat) (w : World) (h : Ri w g r) :
    Calls Try.prog 36 #[.pointer (some ⟨g, 0, none⟩)] w fun e w' => e = .returned (.int .i64 r.st) ∧ Put w w' g 70 r.cells := by
  obtain ⟨c0, c1, c2, c3, c4, c5, c6, c7, c8, c9, c10, c11, c12, c13, c14, c15, c16, c17, c18, c19, c20⟩ := Ri.all h
  have hf : ∀ i, w.frozen? ⟨g, i, none⟩ = false := fun i => h.frozen i
  have H := Lib.hid h
  clear h
  go_enter Try.func36, Try.ntmps36
  go_wp2
  try (repeat (go_quiet (fail); try go_wp2_with fail))
  go_ret
  exact ⟨rfl, by (apply Put.to; (repeat (with_reducible first | exact Put.refl H.out | apply Put.set_ | apply Put.drewN | apply Put.drew)); (first | (simp [Rt.cells, Rt.lost0, Rt.lost1, Rt.at', Rt.give, Rt.ackB, Rt.ackS, Rt.ackT]; done) | rfl))⟩
set_option maxRecDepth 100000 in
set_option maxHeartbeats 2000000 in
theorem rsize_calls (r : Rt) (g : Nat) (w : World) (h : Ri w g r) :
    Calls Try.prog 35 #[.pointer (some ⟨g, 0, none⟩)] w fun e w' => e = .returned (.int .i64 r.size) ∧ Put w w' g 70 r.cells := by
  obtain ⟨c0, c1, c2, c3, c4, c5, c6, c7, c8, c9, c10, c11, c12, c13, c14, c15, c16, c17, c18, c19, c20⟩ := Ri.all h
  have hf : ∀ i, w.frozen? ⟨g, i, none⟩ = false := fun i => h.frozen i
  have H := Lib.hid h
  clear h
  unfold Rt.size
  by_cases h1 : r.st = 1
  · rw [if_pos h1]
    have h1_t : (r.st == 1) = true := beq_iff_eq.2 h1
    have h1_u : (r.st != 1) = false := bne_eq_false_iff_eq.2 h1
    clear h1
    go_enter Try.func35, Try.ntmps35
    go_wp2
    try (repeat (go_quiet (fail); try go_wp2_with fail))
    go_ret
    exact ⟨rfl, by (apply Put.to; (repeat (with_reducible first | exact Put.refl H.out | apply Put.set_ | apply Put.drewN | apply Put.drew)); (first | (simp [Rt.cells, Rt.lost0, Rt.lost1, Rt.at', Rt.give, Rt.ackB, Rt.ackS, Rt.ackT]; done) | rfl))⟩
  · rw [if_neg h1]
    have h1_t : (r.st == 1) = false := beq_eq_false_iff_ne.2 h1
    have h1_u : (r.st != 1) = true := bne_iff_ne.2 h1
    clear h1
    by_cases h2 : r.st = 4
    · rw [if_pos h2]
      have h2_t : (r.st == 4) = true := beq_iff_eq.2 h2
      have h2_u : (r.st != 4) = false := bne_eq_false_iff_eq.2 h2
      clear h2
      go_enter Try.func35, Try.ntmps35
      go_wp2_with (go_at_call 27; refine (rfloor_calls _ _).mono ?_; rintro e w' ⟨rfl, rfl⟩)
      go_ret
      exact ⟨rfl, by (apply Put.to; (repeat (with_reducible first | exact Put.refl H.out | apply Put.set_ | apply Put.drewN | apply Put.drew)); (first | (simp [Rt.cells, Rt.lost0, Rt.lost1, Rt.at', Rt.give, Rt.ackB, Rt.ackS, Rt.ackT]; done) | rfl))⟩
    · rw [if_neg h2]
      have h2_t : (r.st == 4) = false := beq_eq_false_iff_ne.2 h2
      have h2_u : (r.st != 4) = true := bne_iff_ne.2 h2
      clear h2
      go_enter Try.func35, Try.ntmps35
      go_wp2
      try (repeat (go_quiet (fail); try go_wp2_with fail))
      go_ret
      exact ⟨rfl, by (apply Put.to; (repeat (with_reducible first | exact Put.refl H.out | apply Put.set_ | apply Put.drewN | apply Put.drew)); (first | (simp [Rt.cells, Rt.lost0, Rt.lost1, Rt.at', Rt.give, Rt.ackB, Rt.ackS, Rt.ackT]; done) | rfl))⟩
set_option maxRecDepth 100000 in
set_option maxHeartbeats 2000000 in
theorem rclock_yes (r : Rt) (g : Nat) (n : Int) (w : World) (h : Ri w g r) (hl : ¬ r.late n) :
    Calls Try.prog 43 #[.pointer (some ⟨g, 0, none⟩), .int .i64 n] w fun e w' => e = .returned (.bool true) ∧ Put w w' g 70 (r.at' n).cells := by
  obtain ⟨c0, c1, c2, c3, c4, c5, c6, c7, c8, c9, c10, c11, c12, c13, c14, c15, c16, c17, c18, c19, c20⟩ := Ri.all h
  have hf : ∀ i, w.frozen? ⟨g, i, none⟩ = false := fun i => h.frozen i
  have H := Lib.hid h
  clear h
  unfold Rt.late at hl
  have h1 : ¬ n < r.last := fun k => hl (.inl k)
  have h2 : ¬ 1099511627776 < n := fun k => hl (.inr k)
  clear hl
  have h1_t : decide (n < r.last) = false := decide_eq_false h1
  have h1_u : r.last ≤ n := by omega
  clear h1
  have h2_t : decide (1099511627776 < n) = false := decide_eq_false h2
  have h2_u : n ≤ 1099511627776 := by omega
  clear h2
  go_enter Try.func43, Try.ntmps43
  go_wp2
  try (repeat (go_quiet (fail); try go_wp2_with fail))
  go_ret
  exact ⟨rfl, by (apply Put.to; (repeat (with_reducible first | exact Put.refl H.out | apply Put.set_ | apply Put.drewN | apply Put.drew)); (first | (simp [Rt.cells, Rt.lost0, Rt.lost1, Rt.at', Rt.give, Rt.ackB, Rt.ackS, Rt.ackT]; done) | rfl))⟩
set_option maxRecDepth 100000 in
set_option maxHeartbeats 2000000 in
theorem rclock_no (r : Rt) (g : Nat) (n : Int) (w : World) (h : Ri w g r) (hl : r.late n) :
    Calls Try.prog 43 #[.pointer (some ⟨g, 0, none⟩), .int .i64 n] w fun e w' => e = .returned (.bool false) ∧ Put w w' g 70 r.cells := by
  obtain ⟨c0, c1, c2, c3, c4, c5, c6, c7, c8, c9, c10, c11, c12, c13, c14, c15, c16, c17, c18, c19, c20⟩ := Ri.all h
  have hf : ∀ i, w.frozen? ⟨g, i, none⟩ = false := fun i => h.frozen i
  have H := Lib.hid h
  clear h
  unfold Rt.late at hl
  by_cases h1 : n < r.last
  · have h1_t : decide (n < r.last) = true := decide_eq_true h1
    clear h1 hl
    go_enter Try.func43, Try.ntmps43
    go_wp2
    try (repeat (go_quiet (fail); try go_wp2_with fail))
    go_ret
    exact ⟨rfl, by (apply Put.to; (repeat (with_reducible first | exact Put.refl H.out | apply Put.set_ | apply Put.drewN | apply Put.drew)); (first | (simp [Rt.cells, Rt.lost0, Rt.lost1, Rt.at', Rt.give, Rt.ackB, Rt.ackS, Rt.ackT]; done) | rfl))⟩
  · have h2 := hl.resolve_left h1
    clear hl
    have h1_t : decide (n < r.last) = false := decide_eq_false h1
    have h1_u : r.last ≤ n := by omega
    clear h1
    have h2_t : decide (1099511627776 < n) = true := decide_eq_true h2
    clear h2
    go_enter Try.func43, Try.ntmps43
    go_wp2
    try (repeat (go_quiet (fail); try go_wp2_with fail))
    go_ret
    exact ⟨rfl, by (apply Put.to; (repeat (with_reducible first | exact Put.refl H.out | apply Put.set_ | apply Put.drewN | apply Put.drew)); (first | (simp [Rt.cells, Rt.lost0, Rt.lost1, Rt.at', Rt.give, Rt.ackB, Rt.ackS, Rt.ackT]; done) | rfl))⟩
set_option maxRecDepth 100000 in
set_option maxHeartbeats 2000000 in
theorem rsettle_calls (r : Rt) (g : Nat) (n : Int) (w : World) (h : Ri w g r) (hm : Rm r) :
    Calls Try.prog 46 #[.pointer (some ⟨g, 0, none⟩), .int .i64 n] w fun e w' => e = .returned (.tuple #[]) ∧ Put w w' g 70 (r.settle n).cells := by
  obtain ⟨⟨m00, m01⟩, ⟨m10, m11⟩, ⟨m20, m21⟩, ⟨m30, m31⟩, ⟨m40, m41⟩, ⟨m50, m51⟩, ⟨m60, m61⟩, ⟨m70, m71⟩, ⟨m80, m81⟩⟩ := hm
  obtain ⟨c0, c1, c2, c3, c4, c5, c6, c7, c8, c9, c10, c11, c12, c13, c14, c15, c16, c17, c18, c19, c20⟩ := Ri.all h
  have hf : ∀ i, w.frozen? ⟨g, i, none⟩ = false := fun i => h.frozen i
  have H := Lib.hid h
  clear h
  unfold Rt.settle
  by_cases h1 : r.low = r.most
  · rw [if_pos h1]
    have h1_t : (r.low == r.most) = true := beq_iff_eq.2 h1
    have h1_u : (r.low != r.most) = false := bne_eq_false_iff_eq.2 h1
    clear h1
    go_enter Try.func46, Try.ntmps46
    go_wp2
    try (repeat (go_quiet (fail); try go_wp2_with fail))
    first | go_end0 | ((try simp only [Exit.inBlock, Exit.then]); refine bodyPost_ret (results_none rfl _ _ _) rfl ?_)
    exact ⟨rfl, by (apply Put.to; (repeat (with_reducible first | exact Put.refl H.out | apply Put.set_ | apply Put.drewN | apply Put.drew)); (first | (simp [Rt.cells, Rt.lost0, Rt.lost1, Rt.at', Rt.give, Rt.ackB, Rt.ackS, Rt.ackT]; done) | rfl))⟩
  · rw [if_neg h1]
    have h1_t : (r.low == r.most) = false := beq_eq_false_iff_ne.2 h1
    have h1_u : (r.low != r.most) = true := bne_iff_ne.2 h1
    clear h1
    by_cases h2 : r.high = r.low + 1
    · rw [if_pos h2]
      have h2_t : (r.high == (r.low + 1)) = true := beq_iff_eq.2 h2
      have h2_u : (r.high != (r.low + 1)) = false := bne_eq_false_iff_eq.2 h2
      clear h2
      go_enter Try.func46, Try.ntmps46
      go_wp2
      try (repeat (go_quiet (fail); try go_wp2_with fail))
      first | go_end0 | ((try simp only [Exit.inBlock, Exit.then]); refine bodyPost_ret (results_none rfl _ _ _) rfl ?_)
      exact ⟨rfl, by (apply Put.to; (repeat (with_reducible first | exact Put.refl H.out | apply Put.set_ | apply Put.drewN | apply Put.drew)); (first | (simp [Rt.cells, Rt.lost0, Rt.lost1, Rt.at', Rt.give, Rt.ackB, Rt.ackS, Rt.ackT]; done) | rfl))⟩
    · rw [if_neg h2]
      have h2_t : (r.high == (r.low + 1)) = false := beq_eq_false_iff_ne.2 h2
      have h2_u : (r.high != (r.low + 1)) = true := bne_iff_ne.2 h2
      clear h2
      go_enter Try.func46, Try.ntmps46
      go_wp2
      try (repeat (go_quiet (fail); try go_wp2_with fail))
      first | go_end0 | ((try simp only [Exit.inBlock, Exit.then]); refine bodyPost_ret (results_none rfl _ _ _) rfl ?_)
      exact ⟨rfl, by (apply Put.to; (repeat (with_reducible first | exact Put.refl H.out | apply Put.set_ | apply Put.drewN | apply Put.drew)); (first | (simp [Rt.cells, Rt.lost0, Rt.lost1, Rt.at', Rt.give, Rt.ackB, Rt.ackS, Rt.ackT]; done) | rfl))⟩
set_option maxRecDepth 100000 in
set_option maxHeartbeats 2000000 in
theorem rtrial_calls (r : Rt) (g : Nat) (w : World) (h : Ri w g r) (hm : Rm r) (hlh : r.st = 1 ∨ r.low ≤ r.high) :
    Calls Try.prog 45 #[.pointer (some ⟨g, 0, none⟩)] w fun e w' => e = .returned (.int .i64 r.trial) ∧ ∃ k, w' = w.drewN k := by
  obtain ⟨⟨m00, m01⟩, ⟨m10, m11⟩, ⟨m20, m21⟩, ⟨m30, m31⟩, ⟨m40, m41⟩, ⟨m50, m51⟩, ⟨m60, m61⟩, ⟨m70, m71⟩, ⟨m80, m81⟩⟩ := hm
  obtain ⟨c0, c1, c2, c3, c4, c5, c6, c7, c8, c9, c10, c11, c12, c13, c14, c15, c16, c17, c18, c19, c20⟩ := Ri.all h
  have hf : ∀ i, w.frozen? ⟨g, i, none⟩ = false := fun i => h.frozen i
  have H := Lib.hid h
  clear h
  unfold Rt.trial
  by_cases h1 : r.st = 1
  · rw [if_pos h1]
    have h1_t : (r.st == 1) = true := beq_iff_eq.2 h1
    have h1_u : (r.st != 1) = false := bne_eq_false_iff_eq.2 h1
    clear h1
    go_enter Try.func45, Try.ntmps45
    go_wp2
    try (repeat (go_quiet (fail); try go_wp2_with fail))
    go_ret
    exact ⟨rfl, _, by first | rfl | exact (World.drewN_zero _).symm | exact drewN_twice _ _ _ | (rw [drewN_twice, drewN_twice])⟩
  · rw [if_neg h1]
    replace hlh := hlh.resolve_left h1
    have h1_t : (r.st == 1) = false := beq_eq_false_iff_ne.2 h1
    have h1_u : (r.st != 1) = true := bne_iff_ne.2 h1
    clear h1
    by_cases h2 : 0 < r.hint
    · rw [if_pos h2]
      have h2_t : decide (0 < r.hint) = true := decide_eq_true h2
      clear h2
      go_enter Try.func45, Try.ntmps45
      go_wp2
      try (repeat (go_quiet (fail); try go_wp2_with fail))
      go_ret
      exact ⟨rfl, _, by first | rfl | exact (World.drewN_zero _).symm | exact drewN_twice _ _ _ | (rw [drewN_twice, drewN_twice])⟩
    · rw [if_neg h2]
      have h2_t : decide (0 < r.hint) = false := decide_eq_false h2
      have h2_u : r.hint ≤ 0 := by omega
      clear h2
      by_cases h3 : r.high = r.most + 1
      · rw [if_pos h3]
        have h3_t : (r.high == (r.most + 1)) = true := beq_iff_eq.2 h3
        have h3_u : (r.high != (r.most + 1)) = false := bne_eq_false_iff_eq.2 h3
        clear h3
        go_enter Try.func45, Try.ntmps45
        go_wp2
        try (repeat (go_quiet (fail); try go_wp2_with fail))
        go_ret
        exact ⟨rfl, _, by first | rfl | exact (World.drewN_zero _).symm | exact drewN_twice _ _ _ | (rw [drewN_twice, drewN_twice])⟩
      · rw [if_neg h3]
        have h3_t : (r.high == (r.most + 1)) = false := beq_eq_false_iff_ne.2 h3
        have h3_u : (r.high != (r.most + 1)) = true := bne_iff_ne.2 h3
        clear h3
        rw [Int.tdiv_eq_ediv_of_nonneg (by omega)]
        go_enter Try.func45, Try.ntmps45
        go_wp2
        try (repeat (go_quiet (fail); try go_wp2_with fail))
        go_ret
        exact ⟨rfl, _, by first | rfl | exact (World.drewN_zero _).symm | exact drewN_twice _ _ _ | (rw [drewN_twice, drewN_twice])⟩
set_option maxRecDepth 100000 in
set_option maxHeartbeats 2000000 in
theorem rcounts_calls (r : Rt) (g : Nat) (m : Int) (w : World) (h : Ri w g r) :
    Calls Try.prog 47 #[.pointer (some ⟨g, 0, none⟩), .int .i64 m] w fun e w' => e = .returned (.bool (r.counts m)) ∧ Put w w' g 70 r.cells := by
  obtain ⟨c0, c1, c2, c3, c4, c5, c6, c7, c8, c9, c10, c11, c12, c13, c14, c15, c16, c17, c18, c19, c20⟩ := Ri.all h
  have hf : ∀ i, w.frozen? ⟨g, i, none⟩ = false := fun i => h.frozen i
  have H := Lib.hid h
  clear h
  by_cases h1 : r.st = 2
  · by_cases h2 : r.base < m
    · by_cases h3 : m ≤ r.low
      · have hr : r.counts m = true := by unfold Rt.counts; exact decide_eq_true (by omega)
        have HR := Lib.hid hr
        clear hr
        have h1_t : (r.st == 2) = true := beq_iff_eq.2 h1
        have h1_u : (r.st != 2) = false := bne_eq_false_iff_eq.2 h1
        clear h1
        have h2_t : decide (r.base < m) = true := decide_eq_true h2
        clear h2
        have h3_t : decide (m ≤ r.low) = true := decide_eq_true h3
        clear h3
        go_enter Try.func47, Try.ntmps47
        go_wp2
        try (repeat (go_quiet (fail); try go_wp2_with fail))
        go_ret
        exact ⟨by rw [HR.out]; first | rfl | simp, by (apply Put.to; (repeat (with_reducible first | exact Put.refl H.out | apply Put.set_ | apply Put.drewN | apply Put.drew)); (first | (simp [Rt.cells, Rt.lost0, Rt.lost1, Rt.at', Rt.give, Rt.ackB, Rt.ackS, Rt.ackT]; done) | rfl))⟩
      · have hr : r.counts m = false := by unfold Rt.counts; exact decide_eq_false (by omega)
        have HR := Lib.hid hr
        clear hr
        have h1_t : (r.st == 2) = true := beq_iff_eq.2 h1
        have h1_u : (r.st != 2) = false := bne_eq_false_iff_eq.2 h1
        clear h1
        have h2_t : decide (r.base < m) = true := decide_eq_true h2
        clear h2
        have h3_t : decide (m ≤ r.low) = false := decide_eq_false h3
        have h3_u : r.low < m := by omega
        clear h3
        go_enter Try.func47, Try.ntmps47
        go_wp2
        try (repeat (go_quiet (fail); try go_wp2_with fail))
        go_ret
        exact ⟨by rw [HR.out]; first | rfl | simp, by (apply Put.to; (repeat (with_reducible first | exact Put.refl H.out | apply Put.set_ | apply Put.drewN | apply Put.drew)); (first | (simp [Rt.cells, Rt.lost0, Rt.lost1, Rt.at', Rt.give, Rt.ackB, Rt.ackS, Rt.ackT]; done) | rfl))⟩
    · have hr : r.counts m = false := by unfold Rt.counts; exact decide_eq_false (by omega)
      have HR := Lib.hid hr
      clear hr
      have h1_t : (r.st == 2) = true := beq_iff_eq.2 h1
      have h1_u : (r.st != 2) = false := bne_eq_false_iff_eq.2 h1
      clear h1
      have h2_t : decide (r.base < m) = false := decide_eq_false h2
      have h2_u : m ≤ r.base := by omega
      clear h2
      go_enter Try.func47, Try.ntmps47
      go_wp2
      try (repeat (go_quiet (fail); try go_wp2_with fail))
      go_ret
      exact ⟨by rw [HR.out]; first | rfl | simp, by (apply Put.to; (repeat (with_reducible first | exact Put.refl H.out | apply Put.set_ | apply Put.drewN | apply Put.drew)); (first | (simp [Rt.cells, Rt.lost0, Rt.lost1, Rt.at', Rt.give, Rt.ackB, Rt.ackS, Rt.ackT]; done) | rfl))⟩
  · by_cases h0 : r.st = 3
    · by_cases h2 : r.base < m
      · by_cases h3 : m ≤ r.low
        · have hr : r.counts m = true := by unfold Rt.counts; exact decide_eq_true (by omega)
          have HR := Lib.hid hr
          clear hr
          have h1_t : (r.st == 2) = false := beq_eq_false_iff_ne.2 h1
          have h1_u : (r.st != 2) = true := bne_iff_ne.2 h1
          clear h1
          have h0_t : (r.st == 3) = true := beq_iff_eq.2 h0
          have h0_u : (r.st != 3) = false := bne_eq_false_iff_eq.2 h0
          clear h0
          have h2_t : decide (r.base < m) = true := decide_eq_true h2
          clear h2
          have h3_t : decide (m ≤ r.low) = true := decide_eq_true h3
          clear h3
          go_enter Try.func47, Try.ntmps47
          go_wp2
          try (repeat (go_quiet (fail); try go_wp2_with fail))
          go_ret
          exact ⟨by rw [HR.out]; first | rfl | simp, by (apply Put.to; (repeat (with_reducible first | exact Put.refl H.out | apply Put.set_ | apply Put.drewN | apply Put.drew)); (first | (simp [Rt.cells, Rt.lost0, Rt.lost1, Rt.at', Rt.give, Rt.ackB, Rt.ackS, Rt.ackT]; done) | rfl))⟩
        · have hr : r.counts m = false := by unfold Rt.counts; exact decide_eq_false (by omega)
          have HR := Lib.hid hr
          clear hr
          have h1_t : (r.st == 2) = false := beq_eq_false_iff_ne.2 h1
          have h1_u : (r.st != 2) = true := bne_iff_ne.2 h1
          clear h1
          have h0_t : (r.st == 3) = true := beq_iff_eq.2 h0
          have h0_u : (r.st != 3) = false := bne_eq_false_iff_eq.2 h0
          clear h0
          have h2_t : decide (r.base < m) = true := decide_eq_true h2
          clear h2
          have h3_t : decide (m ≤ r.low) = false := decide_eq_false h3
          have h3_u : r.low < m := by omega
          clear h3
          go_enter Try.func47, Try.ntmps47
          go_wp2
          try (repeat (go_quiet (fail); try go_wp2_with fail))
          go_ret
          exact ⟨by rw [HR.out]; first | rfl | simp, by (apply Put.to; (repeat (with_reducible first | exact Put.refl H.out | apply Put.set_ | apply Put.drewN | apply Put.drew)); (first | (simp [Rt.cells, Rt.lost0, Rt.lost1, Rt.at', Rt.give, Rt.ackB, Rt.ackS, Rt.ackT]; done) | rfl))⟩
      · have hr : r.counts m = false := by unfold Rt.counts; exact decide_eq_false (by omega)
        have HR := Lib.hid hr
        clear hr
        have h1_t : (r.st == 2) = false := beq_eq_false_iff_ne.2 h1
        have h1_u : (r.st != 2) = true := bne_iff_ne.2 h1
        clear h1
        have h0_t : (r.st == 3) = true := beq_iff_eq.2 h0
        have h0_u : (r.st != 3) = false := bne_eq_false_iff_eq.2 h0
        clear h0
        have h2_t : decide (r.base < m) = false := decide_eq_false h2
        have h2_u : m ≤ r.base := by omega
        clear h2
        go_enter Try.func47, Try.ntmps47
        go_wp2
        try (repeat (go_quiet (fail); try go_wp2_with fail))
        go_ret
        exact ⟨by rw [HR.out]; first | rfl | simp, by (apply Put.to; (repeat (with_reducible first | exact Put.refl H.out | apply Put.set_ | apply Put.drewN | apply Put.drew)); (first | (simp [Rt.cells, Rt.lost0, Rt.lost1, Rt.at', Rt.give, Rt.ackB, Rt.ackS, Rt.ackT]; done) | rfl))⟩
    · have hr : r.counts m = false := by unfold Rt.counts; exact decide_eq_false (by omega)
      have HR := Lib.hid hr
      clear hr
      have h1_t : (r.st == 2) = false := beq_eq_false_iff_ne.2 h1
      have h1_u : (r.st != 2) = true := bne_iff_ne.2 h1
      clear h1
      have h0_t : (r.st == 3) = false := beq_eq_false_iff_ne.2 h0
      have h0_u : (r.st != 3) = true := bne_iff_ne.2 h0
      clear h0
      go_enter Try.func47, Try.ntmps47
      go_wp2
      try (repeat (go_quiet (fail); try go_wp2_with fail))
      go_ret
      exact ⟨by rw [HR.out]; first | rfl | simp, by (apply Put.to; (repeat (with_reducible first | exact Put.refl H.out | apply Put.set_ | apply Put.drewN | apply Put.drew)); (first | (simp [Rt.cells, Rt.lost0, Rt.lost1, Rt.at', Rt.give, Rt.ackB, Rt.ackS, Rt.ackT]; done) | rfl))⟩
theorem Rm.mk4 {r : Rt} (hm : Rm r) (hu : 0 ≤ r.usize ∧ r.usize ≤ 65535) : Rm ({ r.lost1 with high := r.usize, hint := 0 } : Rt) :=
  ⟨hm.most, hm.low, ⟨hu.1, Int.le_trans hu.2 (by decide)⟩, ⟨Int.le_refl _, (show (0 : Int) ≤ 65535 from by decide)⟩, hm.losses, hm.given, hm.at_, hm.since, hm.last⟩
set_option maxRecDepth 100000 in
set_option maxHeartbeats 2000000 in
theorem rlost_calls (r : Rt) (g : Nat) (n : Int) (w : World) (h : Ri w g r) (hm : Rm r) (hu : 0 ≤ r.usize ∧ r.usize ≤ 65535) :
    Calls Try.prog 44 #[.pointer (some ⟨g, 0, none⟩), .int .i64 n] w fun e w' => e = .returned (.tuple #[]) ∧ Put w w' g 70 (r.lostU n).cells := by
  have hm4 := Lib.hid (hm.mk4 hu)
  obtain ⟨⟨m00, m01⟩, ⟨m10, m11⟩, ⟨m20, m21⟩, ⟨m30, m31⟩, ⟨m40, m41⟩, ⟨m50, m51⟩, ⟨m60, m61⟩, ⟨m70, m71⟩, ⟨m80, m81⟩⟩ := hm
  clear hu
  obtain ⟨c0, c1, c2, c3, c4, c5, c6, c7, c8, c9, c10, c11, c12, c13, c14, c15, c16, c17, c18, c19, c20⟩ := Ri.all h
  have hf : ∀ i, w.frozen? ⟨g, i, none⟩ = false := fun i => h.frozen i
  have H := Lib.hid h
  clear h
  unfold Rt.lostU
  by_cases h1 : r.tries + 1 < r.mtries
  · rw [if_pos h1]
    have h1_t : decide (r.tries + 1 < r.mtries) = true := decide_eq_true h1
    clear h1
    go_enter Try.func44, Try.ntmps44
    go_wp2
    try (repeat (go_quiet (fail); try go_wp2_with fail))
    first | go_end0 | ((try simp only [Exit.inBlock, Exit.then]); refine bodyPost_ret (results_none rfl _ _ _) rfl ?_)
    exact ⟨rfl, by (apply Put.to; (repeat (with_reducible first | exact Put.refl H.out | apply Put.set_ | apply Put.drewN | apply Put.drew)); (first | (simp [Rt.cells, Rt.lost0, Rt.lost1, Rt.at', Rt.give, Rt.ackB, Rt.ackS, Rt.ackT]; done) | rfl))⟩
  · rw [if_neg h1]
    have h1_t : decide (r.tries + 1 < r.mtries) = false := decide_eq_false h1
    have h1_u : r.mtries ≤ r.tries + 1 := by omega
    clear h1
    by_cases h2 : r.st = 1
    · rw [if_pos h2]
      have h2_t : (r.st == 1) = true := beq_iff_eq.2 h2
      have h2_u : (r.st != 1) = false := bne_eq_false_iff_eq.2 h2
      clear h2
      go_enter Try.func44, Try.ntmps44
      go_wp2
      try (repeat (go_quiet (fail); try go_wp2_with fail))
      first | go_end0 | ((try simp only [Exit.inBlock, Exit.then]); refine bodyPost_ret (results_none rfl _ _ _) rfl ?_)
      exact ⟨rfl, by (apply Put.to; (repeat (with_reducible first | exact Put.refl H.out | apply Put.set_ | apply Put.drewN | apply Put.drew)); (first | (simp [Rt.cells, Rt.lost0, Rt.lost1, Rt.at', Rt.give, Rt.ackB, Rt.ackS, Rt.ackT]; done) | rfl))⟩
    · rw [if_neg h2]
      have h2_t : (r.st == 1) = false := beq_eq_false_iff_ne.2 h2
      have h2_u : (r.st != 1) = true := bne_iff_ne.2 h2
      clear h2
      go_enter Try.func44, Try.ntmps44
      go_wp2
      try (repeat (go_quiet (fail); try go_wp2_with fail))
      go_wp2_with (go_at_call 46; (with_reducible refine (rsettle_calls ({ r.lost1 with high := r.usize, hint := 0 } : Rt) g _ _ ?qis hm4.out).mono ?_); (case qis => refine Put.blk (w := w) (Put.to (cs' := (({ r.lost1 with high := r.usize, hint := 0 } : Rt)).cells) (by (repeat (with_reducible first | exact Put.refl H.out | apply Put.set_ | apply Put.drewN | apply Put.drew))) (by first | (simp [Rt.cells, Rt.lost0, Rt.lost1, Rt.at', Rt.give, Rt.ackB, Rt.ackS, Rt.ackT]; done) | rfl))); rintro e w1 ⟨rfl, hp1⟩)
      first | go_end0 | ((try simp only [Exit.inBlock, Exit.then]); refine bodyPost_ret (results_none rfl _ _ _) rfl ?_)
      exact ⟨rfl, by (apply Put.to; (repeat (with_reducible first | apply Put.after hp1 | exact Put.refl H.out | apply Put.set_ | apply Put.drewN | apply Put.drew)); (first | (simp [Rt.cells, Rt.lost0, Rt.lost1, Rt.at', Rt.give, Rt.ackB, Rt.ackS, Rt.ackT]; done) | rfl))⟩
end Go.Proofs.Ytmanojnhjhpokaa.PB
