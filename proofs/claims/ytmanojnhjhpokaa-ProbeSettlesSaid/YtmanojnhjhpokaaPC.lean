/- Contracts of the leaf methods of probe.Path: each turns the path as the Lean function of the same name does, and answers what that answers. Conditions: the path lies in one block that is known whole, its numbers are small. -/
import Derived.Test.YtmanojnhjhpokaaPB
namespace Go.Proofs.Ytmanojnhjhpokaa.PB
set_option linter.unusedVariables false
set_option linter.unusedSimpArgs false
open Go.RowKit
theorem Put.to {w w1 : World} {g : Nat} {t : TypeId} {cs cs' : Array Value} (h : Put w w1 g t cs) (e : cs = cs') : Put w w1 g t cs' := e ▸ h
theorem Put.after {w w1 w2 : World} {g : Nat} {t : TypeId} {cs1 cs2 : Array Value} (h2 : Put w1 w2 g t cs2) (h : Put w w1 g t cs1) : Put w w2 g t cs2 := h.trans h2
theorem named {P : Program} {c : Code} {Q : Exit → Act → World → Prop} {a : Act} {w W : World} {g : Nat} {s : Pt} {cs : Array Value} (hp : Put w W g 66 cs) (e : cs = s.cells) (k : ∀ W', Put w W' g 66 s.cells → Code.wp P c Q a W') : Code.wp P c Q a W := k W (hp.to e)
theorem is_of {w W : World} {g : Nat} {s : Pt} {cs : Array Value} (h : Put w W g 66 cs) (e : cs = s.cells) : Is W g s := (h.to e).blk
/-- Numbers of which no sum wraps. -/
structure Sm (s : Pt) : Prop where
  most : 0 ≤ s.most ∧ s.most ≤ 65535
  low : 0 ≤ s.low ∧ s.low ≤ 65535
  high : 0 ≤ s.high ∧ s.high ≤ 65536
  tries : 0 ≤ s.tries ∧ s.tries ≤ 65535
  losses : 0 ≤ s.losses ∧ s.losses ≤ 65535
  usize : 0 ≤ s.usize ∧ s.usize ≤ 65535
  hsize : 0 ≤ s.hsize ∧ s.hsize ≤ 65536
  number : 0 ≤ s.number ∧ s.number ≤ 1125899906842624
  unum : 0 ≤ s.unum ∧ s.unum ≤ 1125899906842624
  uat : 0 ≤ s.uat ∧ s.uat ≤ 1099511627776
  since : 0 ≤ s.since ∧ s.since ≤ 1099511627776
  now : 0 ≤ s.now ∧ s.now ≤ 1099511627776
theorem floor_calls (v : Int) (w : World) : Calls Try.prog 26 #[.int .i64 v] w fun e w' => e = .returned (.int .i64 (floorOf v)) ∧ w = w' := by
  unfold floorOf
  by_cases h : v = 6
  · rw [if_pos h]
    have h' : (v == 6) = true := beq_iff_eq.2 h
    clear h
    go_enter Try.func26, Try.ntmps26
    go_wp2
    go_ret
    exact ⟨rfl, rfl⟩
  · rw [if_neg h]
    have h' : (v == 6) = false := beq_eq_false_iff_ne.2 h
    clear h
    go_enter Try.func26, Try.ntmps26
    go_wp2
    go_ret
    exact ⟨rfl, rfl⟩
set_option maxRecDepth 100000 in
set_option maxHeartbeats 2000000 in
theorem state_calls (s : Pt) (g : Nat) (w : World) (h : Is w g s) :
    Calls Try.prog 14 #[.pointer (some ⟨g, 0, none⟩)] w fun e w' => e = .returned (.int .i64 s.state) ∧ Put w w' g 66 s.cells := by
  obtain ⟨c0_0, c0_1, c0_2, c0_3, c0_4, c0_5, c0_6, c0_7, c0_8, c0_9, c0_10, c0_11, c0_12, c0_13, c0_14, c0_15, c0_16, c0_17, c0_18, c0_19, c0_20⟩ := Is.all h
  have hf0 := Is.cell0 h
  have H := Lib.hid h; clear h
  go_enter Try.func14, Try.ntmps14
  go_wp2
  try (repeat (go_quiet (fail); try go_wp2_with fail))
  go_ret
  exact ⟨rfl, by (apply Put.to; (repeat (with_reducible first | exact Put.refl H.out | apply Put.set_ | apply Put.drewN | apply Put.drew)); rfl)⟩
set_option maxRecDepth 100000 in
set_option maxHeartbeats 2000000 in
theorem size_calls (s : Pt) (g : Nat) (w : World) (h : Is w g s) :
    Calls Try.prog 15 #[.pointer (some ⟨g, 0, none⟩)] w fun e w' => e = .returned (.int .i64 s.size) ∧ Put w w' g 66 s.cells := by
  obtain ⟨c0_0, c0_1, c0_2, c0_3, c0_4, c0_5, c0_6, c0_7, c0_8, c0_9, c0_10, c0_11, c0_12, c0_13, c0_14, c0_15, c0_16, c0_17, c0_18, c0_19, c0_20⟩ := Is.all h
  have hf0 := Is.cell0 h
  have H := Lib.hid h; clear h
  unfold Pt.size
  by_cases h1 : s.state = 1
  · rw [if_pos h1]
    have h1_t : (s.state == 1) = true := beq_iff_eq.2 h1
    have h1_u : (s.state != 1) = false := bne_eq_false_iff_eq.2 h1
    clear h1
    go_enter Try.func15, Try.ntmps15
    go_wp2
    try (repeat (go_quiet (fail); try go_wp2_with fail))
    go_ret
    exact ⟨rfl, by (apply Put.to; (repeat (with_reducible first | exact Put.refl H.out | apply Put.set_ | apply Put.drewN | apply Put.drew)); rfl)⟩
  · rw [if_neg h1]
    have h1_t : (s.state == 1) = false := beq_eq_false_iff_ne.2 h1
    have h1_u : (s.state != 1) = true := bne_iff_ne.2 h1
    clear h1
    by_cases h2 : s.state = 4
    · rw [if_pos h2]
      have h2_t : (s.state == 4) = true := beq_iff_eq.2 h2
      have h2_u : (s.state != 4) = false := bne_eq_false_iff_eq.2 h2
      clear h2
      go_enter Try.func15, Try.ntmps15
      go_wp2_with (go_at_call 26; refine (floor_calls _ _).mono ?_; rintro e w' ⟨rfl, rfl⟩)
      go_ret
      exact ⟨rfl, by (apply Put.to; (repeat (with_reducible first | exact Put.refl H.out | apply Put.set_ | apply Put.drewN | apply Put.drew)); rfl)⟩
    · rw [if_neg h2]
      have h2_t : (s.state == 4) = false := beq_eq_false_iff_ne.2 h2
      have h2_u : (s.state != 4) = true := bne_iff_ne.2 h2
      clear h2
      go_enter Try.func15, Try.ntmps15
      go_wp2
      try (repeat (go_quiet (fail); try go_wp2_with fail))
      go_ret
      exact ⟨rfl, by (apply Put.to; (repeat (with_reducible first | exact Put.refl H.out | apply Put.set_ | apply Put.drewN | apply Put.drew)); rfl)⟩
set_option maxRecDepth 100000 in
set_option maxHeartbeats 2000000 in
theorem clock_calls (s : Pt) (g : Nat) (n : Int) (w : World) (h : Is w g s) :
    Calls Try.prog 37 #[.pointer (some ⟨g, 0, none⟩), .int .i64 n] w fun e w' => e = .returned (.bool (s.clock n).1) ∧ Put w w' g 66 (s.clock n).2.cells := by
  obtain ⟨c0_0, c0_1, c0_2, c0_3, c0_4, c0_5, c0_6, c0_7, c0_8, c0_9, c0_10, c0_11, c0_12, c0_13, c0_14, c0_15, c0_16, c0_17, c0_18, c0_19, c0_20⟩ := Is.all h
  have hf0 := Is.cell0 h
  have H := Lib.hid h; clear h
  unfold Pt.clock
  by_cases h1 : n < s.now
  · rw [if_pos h1]
    have h1_t : decide (n < s.now) = true := decide_eq_true h1
    go_enter Try.func37, Try.ntmps37
    go_wp2
    try (repeat (go_quiet (fail); try go_wp2_with fail))
    go_ret
    exact ⟨rfl, by (apply Put.to; (repeat (with_reducible first | exact Put.refl H.out | apply Put.set_ | apply Put.drewN | apply Put.drew)); rfl)⟩
  · rw [if_neg h1]
    have h1_t : decide (n < s.now) = false := decide_eq_false h1
    have h1_u : s.now ≤ n := by omega
    clear h1
    by_cases h2 : 1099511627776 < n
    · rw [if_pos h2]
      have h2_t : decide (1099511627776 < n) = true := decide_eq_true h2
      go_enter Try.func37, Try.ntmps37
      go_wp2
      try (repeat (go_quiet (fail); try go_wp2_with fail))
      go_ret
      exact ⟨rfl, by (apply Put.to; (repeat (with_reducible first | exact Put.refl H.out | apply Put.set_ | apply Put.drewN | apply Put.drew)); rfl)⟩
    · rw [if_neg h2]
      have h2_t : decide (1099511627776 < n) = false := decide_eq_false h2
      have h2_u : n ≤ 1099511627776 := by omega
      clear h2
      go_enter Try.func37, Try.ntmps37
      go_wp2
      try (repeat (go_quiet (fail); try go_wp2_with fail))
      go_ret
      exact ⟨rfl, by (apply Put.to; (repeat (with_reducible first | exact Put.refl H.out | apply Put.set_ | apply Put.drewN | apply Put.drew)); rfl)⟩
set_option maxRecDepth 100000 in
set_option maxHeartbeats 2000000 in
theorem enters_calls (s : Pt) (g : Nat) (n : Int) (w : World) (h : Is w g s) :
    Calls Try.prog 48 #[.pointer (some ⟨g, 0, none⟩), .int .i64 n] w fun e w' => e = .returned (.tuple #[]) ∧ Put w w' g 66 (s.enters n).cells := by
  obtain ⟨c0_0, c0_1, c0_2, c0_3, c0_4, c0_5, c0_6, c0_7, c0_8, c0_9, c0_10, c0_11, c0_12, c0_13, c0_14, c0_15, c0_16, c0_17, c0_18, c0_19, c0_20⟩ := Is.all h
  have hf0 := Is.cell0 h
  have H := Lib.hid h; clear h
  go_enter Try.func48, Try.ntmps48
  go_wp2
  try (repeat (go_quiet (fail); try go_wp2_with fail))
  first | go_end0 | ((try simp only [Exit.inBlock, Exit.then]); refine bodyPost_ret (results_none rfl _ _ _) rfl ?_)
  exact ⟨rfl, by (apply Put.to; (repeat (with_reducible first | exact Put.refl H.out | apply Put.set_ | apply Put.drewN | apply Put.drew)); rfl)⟩
set_option maxRecDepth 100000 in
set_option maxHeartbeats 2000000 in
theorem search_calls (s : Pt) (g : Nat) (w : World) (h : Is w g s) (hm : Sm s) :
    Calls Try.prog 39 #[.pointer (some ⟨g, 0, none⟩)] w fun e w' => e = .returned (.tuple #[]) ∧ Put w w' g 66 s.search.cells := by
  obtain ⟨⟨m00, m01⟩, ⟨m10, m11⟩, ⟨m20, m21⟩, ⟨m30, m31⟩, ⟨m40, m41⟩, ⟨m50, m51⟩, ⟨m60, m61⟩, ⟨m70, m71⟩, ⟨m80, m81⟩, ⟨m90, m91⟩, ⟨m100, m101⟩, ⟨m110, m111⟩⟩ := hm
  obtain ⟨c0_0, c0_1, c0_2, c0_3, c0_4, c0_5, c0_6, c0_7, c0_8, c0_9, c0_10, c0_11, c0_12, c0_13, c0_14, c0_15, c0_16, c0_17, c0_18, c0_19, c0_20⟩ := Is.all h
  have hf0 := Is.cell0 h
  have H := Lib.hid h; clear h
  go_enter Try.func39, Try.ntmps39
  go_wp2
  try (repeat (go_quiet (fail); try go_wp2_with fail))
  first | go_end0 | ((try simp only [Exit.inBlock, Exit.then]); refine bodyPost_ret (results_none rfl _ _ _) rfl ?_)
  exact ⟨rfl, by (apply Put.to; (repeat (with_reducible first | exact Put.refl H.out | apply Put.set_ | apply Put.drewN | apply Put.drew)); rfl)⟩
set_option maxRecDepth 100000 in
set_option maxHeartbeats 2000000 in
theorem settled_calls (s : Pt) (g : Nat) (w : World) (h : Is w g s) (hm : Sm s) :
    Calls Try.prog 42 #[.pointer (some ⟨g, 0, none⟩)] w fun e w' => e = .returned (.tuple #[]) ∧ Put w w' g 66 s.settled.cells := by
  obtain ⟨⟨m00, m01⟩, ⟨m10, m11⟩, ⟨m20, m21⟩, ⟨m30, m31⟩, ⟨m40, m41⟩, ⟨m50, m51⟩, ⟨m60, m61⟩, ⟨m70, m71⟩, ⟨m80, m81⟩, ⟨m90, m91⟩, ⟨m100, m101⟩, ⟨m110, m111⟩⟩ := hm
  obtain ⟨c0_0, c0_1, c0_2, c0_3, c0_4, c0_5, c0_6, c0_7, c0_8, c0_9, c0_10, c0_11, c0_12, c0_13, c0_14, c0_15, c0_16, c0_17, c0_18, c0_19, c0_20⟩ := Is.all h
  have hf0 := Is.cell0 h
  have H := Lib.hid h; clear h
  unfold Pt.settled
  by_cases h1 : s.low = s.most
  · rw [if_pos h1]
    have h1_t : (s.low == s.most) = true := beq_iff_eq.2 h1
    have h1_u : (s.low != s.most) = false := bne_eq_false_iff_eq.2 h1
    clear h1
    go_enter Try.func42, Try.ntmps42
    go_wp2_with fail
    go_quiet (fail)
    go_wp2_with (go_at_call 48; refine (enters_calls s g _ _ ?qis).mono ?_; (case qis => apply is_of (w := w); (repeat (with_reducible first | exact Put.refl H.out | apply Put.set_ | apply Put.drewN | apply Put.drew)); rfl); rintro e w1 ⟨rfl, hp1⟩)
    first | go_end0 | ((try simp only [Exit.inBlock, Exit.then]); refine bodyPost_ret (results_none rfl _ _ _) rfl ?_)
    exact ⟨rfl, by (apply Put.to; (repeat (with_reducible first | apply Put.after hp1 | exact Put.refl H.out | apply Put.set_ | apply Put.drewN | apply Put.drew)); rfl)⟩
  · rw [if_neg h1]
    have h1_t : (s.low == s.most) = false := beq_eq_false_iff_ne.2 h1
    have h1_u : (s.low != s.most) = true := bne_iff_ne.2 h1
    clear h1
    by_cases h2 : s.high = s.low + 1
    · rw [if_pos h2]
      have h2_t : (s.high == (s.low + 1)) = true := beq_iff_eq.2 h2
      have h2_u : (s.high != (s.low + 1)) = false := bne_eq_false_iff_eq.2 h2
      clear h2
      go_enter Try.func42, Try.ntmps42
      go_wp2_with fail
      go_quiet (fail)
      go_wp2_with (go_at_call 48; refine (enters_calls s g _ _ ?qis).mono ?_; (case qis => apply is_of (w := w); (repeat (with_reducible first | exact Put.refl H.out | apply Put.set_ | apply Put.drewN | apply Put.drew)); rfl); rintro e w1 ⟨rfl, hp1⟩)
      first | go_end0 | ((try simp only [Exit.inBlock, Exit.then]); refine bodyPost_ret (results_none rfl _ _ _) rfl ?_)
      exact ⟨rfl, by (apply Put.to; (repeat (with_reducible first | apply Put.after hp1 | exact Put.refl H.out | apply Put.set_ | apply Put.drewN | apply Put.drew)); rfl)⟩
    · rw [if_neg h2]
      have h2_t : (s.high == (s.low + 1)) = false := beq_eq_false_iff_ne.2 h2
      have h2_u : (s.high != (s.low + 1)) = true := bne_iff_ne.2 h2
      clear h2
      go_enter Try.func42, Try.ntmps42
      go_wp2
      try (repeat (go_quiet (fail); try go_wp2_with fail))
      first | go_end0 | ((try simp only [Exit.inBlock, Exit.then]); refine bodyPost_ret (results_none rfl _ _ _) rfl ?_)
      exact ⟨rfl, by (apply Put.to; (repeat (with_reducible first | exact Put.refl H.out | apply Put.set_ | apply Put.drewN | apply Put.drew)); rfl)⟩
set_option maxRecDepth 100000 in
set_option maxHeartbeats 2000000 in
theorem drop_calls (s : Pt) (g : Nat) (w : World) (h : Is w g s) (hm : Sm s) :
    Calls Try.prog 38 #[.pointer (some ⟨g, 0, none⟩)] w fun e w' => e = .returned (.tuple #[]) ∧ Put w w' g 66 s.drop.cells := by
  obtain ⟨_, ⟨m10, m11⟩, _, ⟨m30, m31⟩, _, _, _, _, _, _, _, _⟩ := hm
  obtain ⟨_, _, _, c0_3, _, _, _, c0_7, c0_8, _, _, _, c0_12, _, _, c0_15, _, _, _, _, c0_20⟩ := Is.all h
  have hf0 := Is.cell0 h
  have H := Lib.hid h; clear h
  unfold Pt.drop
  by_cases h1 : s.tries + 1 < s.mtries
  · rw [if_pos h1]
    have h1_t : decide (s.tries + 1 < s.mtries) = true := decide_eq_true h1
    go_enter Try.func38, Try.ntmps38
    go_wp2
    apply named (w := w) (g := g) (s := (s.under0 (s.tries + 1)))
    (repeat (with_reducible first | exact Put.refl H.out | apply Put.set_ | apply Put.drewN | apply Put.drew)); rfl
    intro w1 hp1
    clear c0_3 c0_7 c0_8 c0_12 c0_15 c0_20 hf0
    obtain ⟨_, _, _, c1_3, _, _, _, c1_7, c1_8, _, _, _, c1_12, _, _, c1_15, _, _, _, _, c1_20⟩ := Is.all hp1.blk
    have hf1 := Is.cell0 hp1.blk
    try dsimp only [Pt.under0, Pt.enters, Pt.search] at c1_3 c1_7 c1_8 c1_12 c1_15 c1_20
    go_quiet (fail)
    go_wp2_with fail
    first | go_end0 | ((try simp only [Exit.inBlock, Exit.then]); refine bodyPost_ret (results_none rfl _ _ _) rfl ?_)
    exact ⟨rfl, by (apply Put.to; (repeat (with_reducible first | exact hp1 | exact Put.refl H.out | apply Put.set_ | apply Put.drewN | apply Put.drew)); rfl)⟩
  · rw [if_neg h1]
    have h1_t : decide (s.tries + 1 < s.mtries) = false := decide_eq_false h1
    have h1_u : s.mtries ≤ s.tries + 1 := by omega
    clear h1
    by_cases h2 : s.state = 1
    · rw [if_pos h2]
      have h2_t : (s.state == 1) = true := beq_iff_eq.2 h2
      have h2_u : (s.state != 1) = false := bne_eq_false_iff_eq.2 h2
      clear h2
      go_enter Try.func38, Try.ntmps38
      go_wp2
      apply named (w := w) (g := g) (s := (s.under0 (s.tries + 1)))
      (repeat (with_reducible first | exact Put.refl H.out | apply Put.set_ | apply Put.drewN | apply Put.drew)); rfl
      intro w1 hp1
      clear c0_3 c0_7 c0_8 c0_12 c0_15 c0_20 hf0
      obtain ⟨_, _, _, c1_3, _, _, _, c1_7, c1_8, _, _, _, c1_12, _, _, c1_15, _, _, _, _, c1_20⟩ := Is.all hp1.blk
      have hf1 := Is.cell0 hp1.blk
      try dsimp only [Pt.under0, Pt.enters, Pt.search] at c1_3 c1_7 c1_8 c1_12 c1_15 c1_20
      go_quiet (fail)
      go_wp2_with fail
      go_wp2_with (go_at_call 48; (with_reducible refine (enters_calls (s.under0 0) g _ _ ?qis).mono ?_); (case qis => apply is_of (w := w); (repeat (with_reducible first | exact hp1 | exact Put.refl H.out | apply Put.set_ | apply Put.drewN | apply Put.drew)); rfl); rintro e w2 ⟨rfl, hp2⟩)
      first | go_end0 | ((try simp only [Exit.inBlock, Exit.then]); refine bodyPost_ret (results_none rfl _ _ _) rfl ?_)
      exact ⟨rfl, by (apply Put.to; (repeat (with_reducible first | apply Put.after hp2 | exact hp1 | exact Put.refl H.out | apply Put.set_ | apply Put.drewN | apply Put.drew)); rfl)⟩
    · rw [if_neg h2]
      have h2_t : (s.state == 1) = false := beq_eq_false_iff_ne.2 h2
      have h2_u : (s.state != 1) = true := bne_iff_ne.2 h2
      clear h2
      by_cases h3 : s.usize = s.low + 1
      · rw [if_pos h3]
        have h3_t : (s.usize == (s.low + 1)) = true := beq_iff_eq.2 h3
        have h3_u : (s.usize != (s.low + 1)) = false := bne_eq_false_iff_eq.2 h3
        clear h3
        go_enter Try.func38, Try.ntmps38
        go_wp2
        apply named (w := w) (g := g) (s := (s.under0 (s.tries + 1)))
        (repeat (with_reducible first | exact Put.refl H.out | apply Put.set_ | apply Put.drewN | apply Put.drew)); rfl
        intro w1 hp1
        clear c0_3 c0_7 c0_8 c0_12 c0_15 c0_20 hf0
        obtain ⟨_, _, _, c1_3, _, _, _, c1_7, c1_8, _, _, _, c1_12, _, _, c1_15, _, _, _, _, c1_20⟩ := Is.all hp1.blk
        have hf1 := Is.cell0 hp1.blk
        try dsimp only [Pt.under0, Pt.enters, Pt.search] at c1_3 c1_7 c1_8 c1_12 c1_15 c1_20
        go_quiet (fail)
        go_wp2_with fail
        apply named (w := w) (g := g) (s := ({ s.under0 0 with high := s.usize, hsize := 0, hheard := false } : Pt))
        (repeat (with_reducible first | exact hp1 | exact Put.refl H.out | apply Put.set_ | apply Put.drewN | apply Put.drew)); rfl
        intro w2 hp2
        clear c1_3 c1_7 c1_8 c1_12 c1_15 c1_20 hf1
        obtain ⟨_, _, _, c2_3, _, _, _, c2_7, c2_8, _, _, _, c2_12, _, _, c2_15, _, _, _, _, c2_20⟩ := Is.all hp2.blk
        have hf2 := Is.cell0 hp2.blk
        try dsimp only [Pt.under0, Pt.enters, Pt.search] at c2_3 c2_7 c2_8 c2_12 c2_15 c2_20
        go_quiet (fail)
        go_wp2_with fail
        go_wp2_with (go_at_call 48; (with_reducible refine (enters_calls ({ s.under0 0 with high := s.usize, hsize := 0, hheard := false } : Pt) g _ _ ?qis).mono ?_); (case qis => apply is_of (w := w); (repeat (with_reducible first | exact hp2 | exact Put.refl H.out | apply Put.set_ | apply Put.drewN | apply Put.drew)); rfl); rintro e w3 ⟨rfl, hp3⟩)
        first | go_end0 | ((try simp only [Exit.inBlock, Exit.then]); refine bodyPost_ret (results_none rfl _ _ _) rfl ?_)
        exact ⟨rfl, by (apply Put.to; (repeat (with_reducible first | apply Put.after hp3 | exact hp2 | exact Put.refl H.out | apply Put.set_ | apply Put.drewN | apply Put.drew)); rfl)⟩
      · rw [if_neg h3]
        have h3_t : (s.usize == (s.low + 1)) = false := beq_eq_false_iff_ne.2 h3
        have h3_u : (s.usize != (s.low + 1)) = true := bne_iff_ne.2 h3
        clear h3
        go_enter Try.func38, Try.ntmps38
        go_wp2
        apply named (w := w) (g := g) (s := (s.under0 (s.tries + 1)))
        (repeat (with_reducible first | exact Put.refl H.out | apply Put.set_ | apply Put.drewN | apply Put.drew)); rfl
        intro w1 hp1
        clear c0_3 c0_7 c0_8 c0_12 c0_15 c0_20 hf0
        obtain ⟨_, _, _, c1_3, _, _, _, c1_7, c1_8, _, _, _, c1_12, _, _, c1_15, _, _, _, _, c1_20⟩ := Is.all hp1.blk
        have hf1 := Is.cell0 hp1.blk
        try dsimp only [Pt.under0, Pt.enters, Pt.search] at c1_3 c1_7 c1_8 c1_12 c1_15 c1_20
        go_quiet (fail)
        go_wp2_with fail
        apply named (w := w) (g := g) (s := ({ s.under0 0 with high := s.usize, hsize := 0, hheard := false } : Pt))
        (repeat (with_reducible first | exact hp1 | exact Put.refl H.out | apply Put.set_ | apply Put.drewN | apply Put.drew)); rfl
        intro w2 hp2
        clear c1_3 c1_7 c1_8 c1_12 c1_15 c1_20 hf1
        obtain ⟨_, _, _, c2_3, _, _, _, c2_7, c2_8, _, _, _, c2_12, _, _, c2_15, _, _, _, _, c2_20⟩ := Is.all hp2.blk
        have hf2 := Is.cell0 hp2.blk
        try dsimp only [Pt.under0, Pt.enters, Pt.search] at c2_3 c2_7 c2_8 c2_12 c2_15 c2_20
        go_quiet (fail)
        go_wp2_with fail
        first | go_end0 | ((try simp only [Exit.inBlock, Exit.then]); refine bodyPost_ret (results_none rfl _ _ _) rfl ?_)
        exact ⟨rfl, by (apply Put.to; (repeat (with_reducible first | exact hp2 | exact Put.refl H.out | apply Put.set_ | apply Put.drewN | apply Put.drew)); rfl)⟩
set_option maxRecDepth 100000 in
set_option maxHeartbeats 2000000 in
theorem tried_calls (s : Pt) (g : Nat) (w : World) (h : Is w g s) (hm : Sm s) (hlh : s.state = 1 ∨ s.low ≤ s.high) :
    Calls Try.prog 40 #[.pointer (some ⟨g, 0, none⟩)] w fun e w' => e = .returned (.tuple #[.int .i64 s.tried.1, .bool s.tried.2]) ∧ Put w w' g 66 s.cells := by
  obtain ⟨⟨m00, m01⟩, ⟨m10, m11⟩, ⟨m20, m21⟩, ⟨m30, m31⟩, ⟨m40, m41⟩, ⟨m50, m51⟩, ⟨m60, m61⟩, ⟨m70, m71⟩, ⟨m80, m81⟩, ⟨m90, m91⟩, ⟨m100, m101⟩, ⟨m110, m111⟩⟩ := hm
  obtain ⟨c0_0, c0_1, c0_2, c0_3, c0_4, c0_5, c0_6, c0_7, c0_8, c0_9, c0_10, c0_11, c0_12, c0_13, c0_14, c0_15, c0_16, c0_17, c0_18, c0_19, c0_20⟩ := Is.all h
  have hf0 := Is.cell0 h
  have H := Lib.hid h; clear h
  unfold Pt.tried
  by_cases h1 : s.state = 1
  · rw [if_pos h1]
    have h1_t : (s.state == 1) = true := beq_iff_eq.2 h1
    have h1_u : (s.state != 1) = false := bne_eq_false_iff_eq.2 h1
    clear h1
    go_enter Try.func40, Try.ntmps40
    go_wp2
    try (repeat (go_quiet (fail); try go_wp2_with fail))
    go_ret2
    exact ⟨rfl, by (apply Put.to; (repeat (with_reducible first | exact Put.refl H.out | apply Put.set_ | apply Put.drewN | apply Put.drew)); rfl)⟩
  · rw [if_neg h1]
    replace hlh := hlh.resolve_left h1
    have h1_t : (s.state == 1) = false := beq_eq_false_iff_ne.2 h1
    have h1_u : (s.state != 1) = true := bne_iff_ne.2 h1
    clear h1
    by_cases h2 : 0 < s.hsize
    · rw [if_pos h2]
      have h2_t : decide (0 < s.hsize) = true := decide_eq_true h2
      go_enter Try.func40, Try.ntmps40
      go_wp2
      try (repeat (go_quiet (fail); try go_wp2_with fail))
      go_ret2
      exact ⟨rfl, by (apply Put.to; (repeat (with_reducible first | exact Put.refl H.out | apply Put.set_ | apply Put.drewN | apply Put.drew)); rfl)⟩
    · rw [if_neg h2]
      have h2_t : decide (0 < s.hsize) = false := decide_eq_false h2
      have h2_u : s.hsize ≤ 0 := by omega
      clear h2
      by_cases h3 : s.high = s.most + 1
      · rw [if_pos h3]
        have h3_t : (s.high == (s.most + 1)) = true := beq_iff_eq.2 h3
        have h3_u : (s.high != (s.most + 1)) = false := bne_eq_false_iff_eq.2 h3
        clear h3
        go_enter Try.func40, Try.ntmps40
        go_wp2
        try (repeat (go_quiet (fail); try go_wp2_with fail))
        go_ret2
        exact ⟨rfl, by (apply Put.to; (repeat (with_reducible first | exact Put.refl H.out | apply Put.set_ | apply Put.drewN | apply Put.drew)); rfl)⟩
      · rw [if_neg h3]
        have h3_t : (s.high == (s.most + 1)) = false := beq_eq_false_iff_ne.2 h3
        have h3_u : (s.high != (s.most + 1)) = true := bne_iff_ne.2 h3
        clear h3
        rw [Int.tdiv_eq_ediv_of_nonneg (by omega)]
        go_enter Try.func40, Try.ntmps40
        go_wp2
        try (repeat (go_quiet (fail); try go_wp2_with fail))
        go_ret2
        exact ⟨rfl, by (apply Put.to; (repeat (with_reducible first | exact Put.refl H.out | apply Put.set_ | apply Put.drewN | apply Put.drew)); rfl)⟩
set_option maxRecDepth 100000 in
set_option maxHeartbeats 2000000 in
theorem counts_calls (s : Pt) (g : Nat) (n : Int) (w : World) (h : Is w g s) :
    Calls Try.prog 41 #[.pointer (some ⟨g, 0, none⟩), .int .i64 n] w fun e w' => e = .returned (.bool (s.counts n)) ∧ Put w w' g 66 s.cells := by
  obtain ⟨c0_0, c0_1, c0_2, c0_3, c0_4, c0_5, c0_6, c0_7, c0_8, c0_9, c0_10, c0_11, c0_12, c0_13, c0_14, c0_15, c0_16, c0_17, c0_18, c0_19, c0_20⟩ := Is.all h
  have hf0 := Is.cell0 h
  have H := Lib.hid h; clear h
  unfold Pt.counts
  by_cases h1 : s.state = 2
  · rw [if_pos h1]
    have h1_t : (s.state == 2) = true := beq_iff_eq.2 h1
    have h1_u : (s.state != 2) = false := bne_eq_false_iff_eq.2 h1
    clear h1
    by_cases h2 : s.base < n
    · rw [if_pos h2]
      have h2_t : decide (s.base < n) = true := decide_eq_true h2
      go_enter Try.func41, Try.ntmps41
      go_wp2
      try (repeat (go_quiet (fail); try go_wp2_with fail))
      go_ret
      exact ⟨rfl, by (apply Put.to; (repeat (with_reducible first | exact Put.refl H.out | apply Put.set_ | apply Put.drewN | apply Put.drew)); rfl)⟩
    · rw [if_neg h2]
      have h2_t : decide (s.base < n) = false := decide_eq_false h2
      have h2_u : n ≤ s.base := by omega
      clear h2
      go_enter Try.func41, Try.ntmps41
      go_wp2
      try (repeat (go_quiet (fail); try go_wp2_with fail))
      go_ret
      exact ⟨rfl, by (apply Put.to; (repeat (with_reducible first | exact Put.refl H.out | apply Put.set_ | apply Put.drewN | apply Put.drew)); rfl)⟩
  · rw [if_neg h1]
    have h1_t : (s.state == 2) = false := beq_eq_false_iff_ne.2 h1
    have h1_u : (s.state != 2) = true := bne_iff_ne.2 h1
    clear h1
    by_cases h3 : s.state = 3
    · rw [if_pos h3]
      have h3_t : (s.state == 3) = true := beq_iff_eq.2 h3
      have h3_u : (s.state != 3) = false := bne_eq_false_iff_eq.2 h3
      clear h3
      by_cases h2 : s.base < n
      · rw [if_pos h2]
        have h2_t : decide (s.base < n) = true := decide_eq_true h2
        go_enter Try.func41, Try.ntmps41
        go_wp2
        try (repeat (go_quiet (fail); try go_wp2_with fail))
        go_ret
        exact ⟨rfl, by (apply Put.to; (repeat (with_reducible first | exact Put.refl H.out | apply Put.set_ | apply Put.drewN | apply Put.drew)); rfl)⟩
      · rw [if_neg h2]
        have h2_t : decide (s.base < n) = false := decide_eq_false h2
        have h2_u : n ≤ s.base := by omega
        clear h2
        go_enter Try.func41, Try.ntmps41
        go_wp2
        try (repeat (go_quiet (fail); try go_wp2_with fail))
        go_ret
        exact ⟨rfl, by (apply Put.to; (repeat (with_reducible first | exact Put.refl H.out | apply Put.set_ | apply Put.drewN | apply Put.drew)); rfl)⟩
    · rw [if_neg h3]
      have h3_t : (s.state == 3) = false := beq_eq_false_iff_ne.2 h3
      have h3_u : (s.state != 3) = true := bne_iff_ne.2 h3
      clear h3
      go_enter Try.func41, Try.ntmps41
      go_wp2
      try (repeat (go_quiet (fail); try go_wp2_with fail))
      go_ret
      exact ⟨rfl, by (apply Put.to; (repeat (with_reducible first | exact Put.refl H.out | apply Put.set_ | apply Put.drewN | apply Put.drew)); rfl)⟩
theorem clock_yes (s : Pt) (g : Nat) (n : Int) (w : World) (h : Is w g s) (h1 : ¬ n < s.now) (h2 : ¬ 1099511627776 < n) : Calls Try.prog 37 #[.pointer (some ⟨g, 0, none⟩), .int .i64 n] w fun e w' => e = .returned (.bool true) ∧ Put w w' g 66 ({ s with now := n } : Pt).cells := by
  have hk := clock_calls s g n w h
  unfold Pt.clock at hk
  rwa [if_neg h1, if_neg h2] at hk
theorem clock_no (s : Pt) (g : Nat) (n : Int) (w : World) (h : Is w g s) (h1 : n < s.now ∨ 1099511627776 < n) : Calls Try.prog 37 #[.pointer (some ⟨g, 0, none⟩), .int .i64 n] w fun e w' => e = .returned (.bool false) ∧ Put w w' g 66 s.cells := by
  have hk := clock_calls s g n w h
  unfold Pt.clock at hk
  by_cases h3 : n < s.now
  · rwa [if_pos h3] at hk
  · rwa [if_neg h3, if_pos (h1.resolve_left h3)] at hk
end Go.Proofs.Ytmanojnhjhpokaa.PB
