/- Contracts of probe.Path's Next, Acked, TooBig, Got and Lost: each turns the path as the Lean function of the same name does. Conditions: the path lies in one block that is known whole, its numbers are small. -/
import Derived.Test.YtmanojnhjhpokaaPC
namespace Go.Proofs.Ytmanojnhjhpokaa.PB
set_option linter.unusedVariables false
set_option linter.unusedSimpArgs false
open Go.RowKit
set_option maxRecDepth 100000 in
set_option maxHeartbeats 4000000 in
theorem next_no (s : Pt) (g : Nat)  (n : Int) (w : World) (h1 : n < s.now ∨ 1099511627776 < n) (h : Is w g s) (hm : Sm s) :
    Calls Try.prog 22 #[.pointer (some ⟨g, 0, none⟩), .int .i64 n] w fun e w' => e = .returned (.tuple #[.int .i64 0, .int .i64 0, .int .i64 1]) ∧ Put w w' g 66 s.cells := by
  have H := Lib.hid h; clear h hm
  go_enter Try.func22, Try.ntmps22
  go_wp2_with (go_at_call 37; (with_reducible refine (clock_no s g n _ H.out h1).mono ?_); rintro e w1 ⟨rfl, hp1⟩)
  go_ret3
  exact ⟨rfl, by (apply Put.to; (repeat (with_reducible first | apply Put.after hp1 | exact Put.refl H.out | apply Put.set_ | apply Put.drewN | apply Put.drew | apply Put.alloc | refine Put.far ?_ (by simpa using hb1) hg0 _)); (first | (simp [Pt.cells, Pt.under0, Pt.enters, Pt.search, Pt.num1, Pt.toBase]; done) | rfl))⟩
set_option maxRecDepth 100000 in
set_option maxHeartbeats 4000000 in
theorem acked_no (s : Pt) (g : Nat) (p : Int) (n : Int) (w : World) (h1 : n < s.now ∨ 1099511627776 < n) (h : Is w g s) (hm : Sm s) :
    Calls Try.prog 28 #[.pointer (some ⟨g, 0, none⟩), .int .i64 p, .int .i64 n] w fun e w' => e = .returned (.tuple #[.bool false, .int .i64 1]) ∧ Put w w' g 66 s.cells := by
  have H := Lib.hid h; clear h hm
  go_enter Try.func28, Try.ntmps28
  go_wp2_with (go_at_call 37; (with_reducible refine (clock_no s g n _ H.out h1).mono ?_); rintro e w1 ⟨rfl, hp1⟩)
  go_ret2
  exact ⟨rfl, by (apply Put.to; (repeat (with_reducible first | apply Put.after hp1 | exact Put.refl H.out | apply Put.set_ | apply Put.drewN | apply Put.drew | apply Put.alloc | refine Put.far ?_ (by simpa using hb1) hg0 _)); (first | (simp [Pt.cells, Pt.under0, Pt.enters, Pt.search, Pt.num1, Pt.toBase]; done) | rfl))⟩
set_option maxRecDepth 100000 in
set_option maxHeartbeats 4000000 in
theorem tooBig_no (s : Pt) (g : Nat) (p m : Int) (n : Int) (w : World) (h1 : n < s.now ∨ 1099511627776 < n) (h : Is w g s) (hm : Sm s) :
    Calls Try.prog 29 #[.pointer (some ⟨g, 0, none⟩), .int .i64 p, .int .i64 m, .int .i64 n] w fun e w' => e = .returned (.tuple #[.bool false, .int .i64 1]) ∧ Put w w' g 66 s.cells := by
  have H := Lib.hid h; clear h hm
  go_enter Try.func29, Try.ntmps29
  go_wp2_with (go_at_call 37; (with_reducible refine (clock_no s g n _ H.out h1).mono ?_); rintro e w1 ⟨rfl, hp1⟩)
  go_ret2
  exact ⟨rfl, by (apply Put.to; (repeat (with_reducible first | apply Put.after hp1 | exact Put.refl H.out | apply Put.set_ | apply Put.drewN | apply Put.drew | apply Put.alloc | refine Put.far ?_ (by simpa using hb1) hg0 _)); (first | (simp [Pt.cells, Pt.under0, Pt.enters, Pt.search, Pt.num1, Pt.toBase]; done) | rfl))⟩
set_option maxRecDepth 100000 in
set_option maxHeartbeats 4000000 in
theorem got_no (s : Pt) (g : Nat) (m : Int) (n : Int) (w : World) (h1 : n < s.now ∨ 1099511627776 < n) (h : Is w g s) (hm : Sm s) :
    Calls Try.prog 24 #[.pointer (some ⟨g, 0, none⟩), .int .i64 m, .int .i64 n] w fun e w' => e = .returned (.int .i64 1) ∧ Put w w' g 66 s.cells := by
  have H := Lib.hid h; clear h hm
  go_enter Try.func24, Try.ntmps24
  go_wp2_with (go_at_call 37; (with_reducible refine (clock_no s g n _ H.out h1).mono ?_); rintro e w1 ⟨rfl, hp1⟩)
  go_ret
  exact ⟨rfl, by (apply Put.to; (repeat (with_reducible first | apply Put.after hp1 | exact Put.refl H.out | apply Put.set_ | apply Put.drewN | apply Put.drew | apply Put.alloc | refine Put.far ?_ (by simpa using hb1) hg0 _)); (first | (simp [Pt.cells, Pt.under0, Pt.enters, Pt.search, Pt.num1, Pt.toBase]; done) | rfl))⟩
set_option maxRecDepth 100000 in
set_option maxHeartbeats 4000000 in
theorem lost_no (s : Pt) (g : Nat) (m : Int) (n : Int) (w : World) (h1 : n < s.now ∨ 1099511627776 < n) (h : Is w g s) (hm : Sm s) :
    Calls Try.prog 23 #[.pointer (some ⟨g, 0, none⟩), .int .i64 m, .int .i64 n] w fun e w' => e = .returned (.tuple #[.bool false, .int .i64 1]) ∧ Put w w' g 66 s.cells := by
  have H := Lib.hid h; clear h hm
  go_enter Try.func23, Try.ntmps23
  go_wp2_with (go_at_call 37; (with_reducible refine (clock_no s g n _ H.out h1).mono ?_); rintro e w1 ⟨rfl, hp1⟩)
  go_ret2
  exact ⟨rfl, by (apply Put.to; (repeat (with_reducible first | apply Put.after hp1 | exact Put.refl H.out | apply Put.set_ | apply Put.drewN | apply Put.drew | apply Put.alloc | refine Put.far ?_ (by simpa using hb1) hg0 _)); (first | (simp [Pt.cells, Pt.under0, Pt.enters, Pt.search, Pt.num1, Pt.toBase]; done) | rfl))⟩
theorem Sm.at_ {s : Pt} {n : Int} (hm : Sm s) (h1 : ¬ n < s.now) (h2 : ¬ 1099511627776 < n) : Sm ({ s with now := n } : Pt) :=
  ⟨hm.most, hm.low, hm.high, hm.tries, hm.losses, hm.usize, hm.hsize, hm.number, hm.unum, hm.uat, hm.since, by have := hm.now; show 0 ≤ n ∧ n ≤ 1099511627776; omega⟩
set_option maxRecDepth 100000 in
set_option maxHeartbeats 4000000 in
theorem got_yes (s : Pt) (g : Nat) (m : Int) (n : Int) (w : World) (h1 : ¬ n < s.now) (h2 : ¬ 1099511627776 < n) (h : Is w g s) (hm : Sm s) :
    Calls Try.prog 24 #[.pointer (some ⟨g, 0, none⟩), .int .i64 m, .int .i64 n] w fun e w' => e = .returned (.int .i64 0) ∧ Put w w' g 66 (({ s with now := n } : Pt).got m).cells := by
  have H := Lib.hid h; clear h hm
  unfold Pt.got
  by_cases hc : ({ s with now := n } : Pt).counts m = true
  · rw [if_pos hc]
    have hct : (({ s with now := n } : Pt)).counts m = true := hc
    have HC := Lib.hid hct
    clear hct
    clear hc
    go_enter Try.func24, Try.ntmps24
    go_wp2_with (go_at_call 37; (with_reducible refine (clock_yes s g n _ H.out h1 h2).mono ?_); rintro e w1 ⟨rfl, hp1⟩; obtain ⟨_, _, _, _, _, _, _, _, _, _, _, _, _, c1_13, _, _, _, _, _, _, _⟩ := Is.all hp1.blk; have hf1 := Is.cell0 hp1.blk; (try dsimp only at c1_13))
    go_wp2_with (go_at_call 41; (with_reducible refine (counts_calls ({ s with now := n } : Pt) g _ _ ?qis).mono ?_); (case qis => exact hp1.blk); rintro e w2 ⟨rfl, hp2⟩; rw [HC.out]; obtain ⟨_, _, _, _, c2_4, _, _, c2_7, _, _, _, _, _, c2_13, _, _, _, _, _, _, _⟩ := Is.all hp2.blk; have hf2 := Is.cell0 hp2.blk; try dsimp only at c2_4 c2_7 c2_13)
    go_wp2
    go_ret
    exact ⟨rfl, by (apply Put.to; (repeat (with_reducible first | apply Put.after hp2 | exact hp1 | exact Put.refl H.out | apply Put.set_ | apply Put.drewN | apply Put.drew | apply Put.alloc | refine Put.far ?_ (by simpa using hb1) hg0 _)); (first | (simp [Pt.cells, Pt.under0, Pt.enters, Pt.search, Pt.num1, Pt.toBase]; done) | rfl))⟩
  · rw [if_neg hc]
    have hct : (({ s with now := n } : Pt)).counts m = false := (Bool.eq_false_iff.2 hc)
    have HC := Lib.hid hct
    clear hct
    clear hc
    go_enter Try.func24, Try.ntmps24
    go_wp2_with (go_at_call 37; (with_reducible refine (clock_yes s g n _ H.out h1 h2).mono ?_); rintro e w1 ⟨rfl, hp1⟩; obtain ⟨_, _, _, _, _, _, _, _, _, _, _, _, _, c1_13, _, _, _, _, _, _, _⟩ := Is.all hp1.blk; have hf1 := Is.cell0 hp1.blk; (try dsimp only at c1_13))
    go_wp2_with (go_at_call 41; (with_reducible refine (counts_calls ({ s with now := n } : Pt) g _ _ ?qis).mono ?_); (case qis => exact hp1.blk); rintro e w2 ⟨rfl, hp2⟩; rw [HC.out]; obtain ⟨_, _, _, _, c2_4, _, _, c2_7, _, _, _, _, _, c2_13, _, _, _, _, _, _, _⟩ := Is.all hp2.blk; have hf2 := Is.cell0 hp2.blk; try dsimp only at c2_4 c2_7 c2_13)
    go_wp2
    go_ret
    exact ⟨rfl, by (apply Put.to; (repeat (with_reducible first | apply Put.after hp2 | exact hp1 | exact Put.refl H.out | apply Put.set_ | apply Put.drewN | apply Put.drew | apply Put.alloc | refine Put.far ?_ (by simpa using hb1) hg0 _)); (first | (simp [Pt.cells, Pt.under0, Pt.enters, Pt.search, Pt.num1, Pt.toBase]; done) | rfl))⟩
set_option maxRecDepth 100000 in
set_option maxHeartbeats 4000000 in
theorem lost_yes (s : Pt) (g : Nat) (m : Int) (n : Int) (w : World) (h1 : ¬ n < s.now) (h2 : ¬ 1099511627776 < n) (h : Is w g s) (hm : Sm s) :
    Calls Try.prog 23 #[.pointer (some ⟨g, 0, none⟩), .int .i64 m, .int .i64 n] w fun e w' => e = .returned (.tuple #[.bool (({ s with now := n } : Pt).lost m).1, .int .i64 0]) ∧ Put w w' g 66 (({ s with now := n } : Pt).lost m).2.cells := by
  have H := Lib.hid h; clear h
  obtain ⟨l0, l1⟩ := hm.losses
  clear hm
  unfold Pt.lost
  by_cases hc : ({ s with now := n } : Pt).counts m = true
  · rw [if_pos hc]
    have hct : (({ s with now := n } : Pt)).counts m = true := hc
    have HC := Lib.hid hct
    clear hct
    clear hc
    by_cases h3 : s.losses + 1 < s.mlosses
    · rw [if_pos (show ({ s with now := n } : Pt).losses + 1 < ({ s with now := n } : Pt).mlosses from h3)]
      have h3_t : decide (s.losses + 1 < s.mlosses) = true := decide_eq_true h3
      go_enter Try.func23, Try.ntmps23
      go_wp2_with (go_at_call 37; (with_reducible refine (clock_yes s g n _ H.out h1 h2).mono ?_); rintro e w1 ⟨rfl, hp1⟩; obtain ⟨_, _, _, _, _, _, _, _, _, _, _, _, _, c1_13, _, _, _, _, _, _, _⟩ := Is.all hp1.blk; have hf1 := Is.cell0 hp1.blk; (try dsimp only at c1_13))
      go_wp2_with (go_at_call 41; (with_reducible refine (counts_calls ({ s with now := n } : Pt) g _ _ ?qis).mono ?_); (case qis => exact hp1.blk); rintro e w2 ⟨rfl, hp2⟩; rw [HC.out]; obtain ⟨_, _, _, _, c2_4, _, _, c2_7, _, _, _, _, _, c2_13, _, _, _, _, _, _, _⟩ := Is.all hp2.blk; have hf2 := Is.cell0 hp2.blk; try dsimp only at c2_4 c2_7 c2_13)
      apply named (w := w) (g := g) (s := ({ s with now := n, losses := s.losses + 1 } : Pt))
      (repeat (with_reducible first | apply Put.after hp2 | exact hp1 | exact Put.refl H.out | apply Put.set_ | apply Put.drewN | apply Put.drew | apply Put.alloc | refine Put.far ?_ (by simpa using hb1) hg0 _)); (first | (simp [Pt.cells, Pt.under0, Pt.enters, Pt.search, Pt.num1, Pt.toBase]; done) | rfl)
      intro w3 hp3
      clear c2_4 c2_7 c2_13 hf2
      obtain ⟨_, _, _, _, c3_4, _, _, c3_7, _, _, _, _, _, c3_13, _, _, _, _, _, _, _⟩ := Is.all hp3.blk
      have hf3 := Is.cell0 hp3.blk
      try dsimp only [Pt.under0, Pt.enters, Pt.search, Pt.num1, Pt.toBase] at c3_4 c3_7 c3_13
      go_quiet (fail)
      go_wp2_with fail
      go_ret2
      exact ⟨rfl, by (apply Put.to; (repeat (with_reducible first | exact hp3 | exact Put.refl H.out | apply Put.set_ | apply Put.drewN | apply Put.drew | apply Put.alloc | refine Put.far ?_ (by simpa using hb1) hg0 _)); (first | (simp [Pt.cells, Pt.under0, Pt.enters, Pt.search, Pt.num1, Pt.toBase]; done) | rfl))⟩
    · rw [if_neg (show ¬ ({ s with now := n } : Pt).losses + 1 < ({ s with now := n } : Pt).mlosses from h3)]
      have h3_t : decide (s.losses + 1 < s.mlosses) = false := decide_eq_false h3
      have h3_u : s.mlosses ≤ s.losses + 1 := by omega
      clear h3
      go_enter Try.func23, Try.ntmps23
      go_wp2_with (go_at_call 37; (with_reducible refine (clock_yes s g n _ H.out h1 h2).mono ?_); rintro e w1 ⟨rfl, hp1⟩; obtain ⟨_, _, _, _, _, _, _, _, _, _, _, _, _, c1_13, _, _, _, _, _, _, _⟩ := Is.all hp1.blk; have hf1 := Is.cell0 hp1.blk; (try dsimp only at c1_13))
      go_wp2_with (go_at_call 41; (with_reducible refine (counts_calls ({ s with now := n } : Pt) g _ _ ?qis).mono ?_); (case qis => exact hp1.blk); rintro e w2 ⟨rfl, hp2⟩; rw [HC.out]; obtain ⟨_, _, _, _, c2_4, _, _, c2_7, _, _, _, _, _, c2_13, _, _, _, _, _, _, _⟩ := Is.all hp2.blk; have hf2 := Is.cell0 hp2.blk; try dsimp only at c2_4 c2_7 c2_13)
      apply named (w := w) (g := g) (s := ({ s with now := n, losses := s.losses + 1 } : Pt))
      (repeat (with_reducible first | apply Put.after hp2 | exact hp1 | exact Put.refl H.out | apply Put.set_ | apply Put.drewN | apply Put.drew | apply Put.alloc | refine Put.far ?_ (by simpa using hb1) hg0 _)); (first | (simp [Pt.cells, Pt.under0, Pt.enters, Pt.search, Pt.num1, Pt.toBase]; done) | rfl)
      intro w3 hp3
      clear c2_4 c2_7 c2_13 hf2
      obtain ⟨_, _, _, _, c3_4, _, _, c3_7, _, _, _, _, _, c3_13, _, _, _, _, _, _, _⟩ := Is.all hp3.blk
      have hf3 := Is.cell0 hp3.blk
      try dsimp only [Pt.under0, Pt.enters, Pt.search, Pt.num1, Pt.toBase] at c3_4 c3_7 c3_13
      go_quiet (fail)
      go_wp2_with fail
      go_ret2
      exact ⟨rfl, by (apply Put.to; (repeat (with_reducible first | exact hp3 | exact Put.refl H.out | apply Put.set_ | apply Put.drewN | apply Put.drew | apply Put.alloc | refine Put.far ?_ (by simpa using hb1) hg0 _)); (first | (simp [Pt.cells, Pt.under0, Pt.enters, Pt.search, Pt.num1, Pt.toBase]; done) | rfl))⟩
  · rw [if_neg hc]
    have hct : (({ s with now := n } : Pt)).counts m = false := (Bool.eq_false_iff.2 hc)
    have HC := Lib.hid hct
    clear hct
    clear hc
    go_enter Try.func23, Try.ntmps23
    go_wp2_with (go_at_call 37; (with_reducible refine (clock_yes s g n _ H.out h1 h2).mono ?_); rintro e w1 ⟨rfl, hp1⟩; obtain ⟨_, _, _, _, _, _, _, _, _, _, _, _, _, c1_13, _, _, _, _, _, _, _⟩ := Is.all hp1.blk; have hf1 := Is.cell0 hp1.blk; (try dsimp only at c1_13))
    go_wp2_with (go_at_call 41; (with_reducible refine (counts_calls ({ s with now := n } : Pt) g _ _ ?qis).mono ?_); (case qis => exact hp1.blk); rintro e w2 ⟨rfl, hp2⟩; rw [HC.out]; obtain ⟨_, _, _, _, c2_4, _, _, c2_7, _, _, _, _, _, c2_13, _, _, _, _, _, _, _⟩ := Is.all hp2.blk; have hf2 := Is.cell0 hp2.blk; try dsimp only at c2_4 c2_7 c2_13)
    go_wp2
    go_ret2
    exact ⟨rfl, by (apply Put.to; (repeat (with_reducible first | apply Put.after hp2 | exact hp1 | exact Put.refl H.out | apply Put.set_ | apply Put.drewN | apply Put.drew | apply Put.alloc | refine Put.far ?_ (by simpa using hb1) hg0 _)); (first | (simp [Pt.cells, Pt.under0, Pt.enters, Pt.search, Pt.num1, Pt.toBase]; done) | rfl))⟩
set_option maxRecDepth 100000 in
set_option maxHeartbeats 4000000 in
theorem tooBig_yes (s : Pt) (g : Nat) (p m : Int) (n : Int) (w : World) (h1 : ¬ n < s.now) (h2 : ¬ 1099511627776 < n) (h : Is w g s) (hm : Sm s) :
    Calls Try.prog 29 #[.pointer (some ⟨g, 0, none⟩), .int .i64 p, .int .i64 m, .int .i64 n] w fun e w' => e = .returned (.tuple #[.bool (({ s with now := n } : Pt).tooBig p m).1, .int .i64 0]) ∧ Put w w' g 66 (({ s with now := n } : Pt).tooBig p m).2.cells := by
  have H := Lib.hid h; clear h
  have hm0 := hm.at_ h1 h2
  obtain ⟨z0, z1⟩ := hm.low
  clear hm
  by_cases a1 : s.unum = 0
  · have hfin : ({ s with now := n } : Pt).tooBig p m = (false, ({ s with now := n } : Pt)) := by unfold Pt.tooBig; rw [if_pos (show s.unum = 0 from a1)]
    have HF := Lib.hid hfin
    clear hfin
    have a1_t : (s.unum == 0) = true := beq_iff_eq.2 a1
    have a1_u : (s.unum != 0) = false := bne_eq_false_iff_eq.2 a1
    clear a1
    have hg0 := H.out.lt
    go_enter Try.func29, Try.ntmps29
    go_wp2_with (go_at_call 37; (with_reducible refine (clock_yes s g n _ H.out h1 h2).mono ?_); rintro e w1 ⟨rfl, hp1⟩; obtain ⟨c1_0, _, _, _, _, _, _, c1_7, c1_8, _, _, _, _, _, c1_14, c1_15, c1_16, c1_17, _, _, _⟩ := Is.all hp1.blk; have hf1 := Is.cell0 hp1.blk; (try dsimp only at c1_0 c1_7 c1_8 c1_14 c1_15 c1_16 c1_17); have hlt1 := hp1.blk.lt; have hb1 := hp1.size; have hal1 : ∀ o i, (w1.alloc o).cell? ⟨g, i, none⟩ = w1.cell? ⟨g, i, none⟩ := fun o i => World.cell?_alloc_lt w1 o ⟨g, i, none⟩ hlt1; have hfl1 : ∀ o i, (w1.alloc o).frozen? ⟨g, i, none⟩ = false := fun o i => (hp1.blk.alloc o).frozen i; have hne1 : ¬ g = w1.heap.size := (by omega); have hne2 : ¬ w1.heap.size = g := (by omega))
    go_wp2_with (first | (go_at_call 26; refine (floor_calls _ _).mono ?_; rintro e w' ⟨rfl, rfl⟩))
    go_ret2
    exact ⟨(by rw [HF.out]; rfl), (by rw [HF.out]; exact by (apply Put.to; (repeat (with_reducible first | exact hp1 | exact Put.refl H.out | apply Put.set_ | apply Put.drewN | apply Put.drew | apply Put.alloc | refine Put.far ?_ (by simpa using hb1) hg0 _)); (first | (simp [Pt.cells, Pt.under0, Pt.enters, Pt.search, Pt.num1, Pt.toBase]; done) | rfl)))⟩
  · by_cases a2 : p = s.unum
    · by_cases a3 : m < floorOf s.v
      · have hfin : ({ s with now := n } : Pt).tooBig p m = (false, ({ s with now := n } : Pt)) := by unfold Pt.tooBig; rw [if_neg (show ¬ s.unum = 0 from a1)]; rw [if_pos (show p = s.unum from a2)]; rw [if_pos (show m < floorOf s.v from a3)]
        have HF := Lib.hid hfin
        clear hfin
        have a1_t : (s.unum == 0) = false := beq_eq_false_iff_ne.2 a1
        have a1_u : (s.unum != 0) = true := bne_iff_ne.2 a1
        clear a1
        have a2_t : (p == s.unum) = true := beq_iff_eq.2 a2
        have a2_u : (p != s.unum) = false := bne_eq_false_iff_eq.2 a2
        clear a2
        have a3_t : decide (m < floorOf s.v) = true := decide_eq_true a3
        have hg0 := H.out.lt
        go_enter Try.func29, Try.ntmps29
        go_wp2_with (go_at_call 37; (with_reducible refine (clock_yes s g n _ H.out h1 h2).mono ?_); rintro e w1 ⟨rfl, hp1⟩; obtain ⟨c1_0, _, _, _, _, _, _, c1_7, c1_8, _, _, _, _, _, c1_14, c1_15, c1_16, c1_17, _, _, _⟩ := Is.all hp1.blk; have hf1 := Is.cell0 hp1.blk; (try dsimp only at c1_0 c1_7 c1_8 c1_14 c1_15 c1_16 c1_17); have hlt1 := hp1.blk.lt; have hb1 := hp1.size; have hal1 : ∀ o i, (w1.alloc o).cell? ⟨g, i, none⟩ = w1.cell? ⟨g, i, none⟩ := fun o i => World.cell?_alloc_lt w1 o ⟨g, i, none⟩ hlt1; have hfl1 : ∀ o i, (w1.alloc o).frozen? ⟨g, i, none⟩ = false := fun o i => (hp1.blk.alloc o).frozen i; have hne1 : ¬ g = w1.heap.size := (by omega); have hne2 : ¬ w1.heap.size = g := (by omega))
        go_wp2_with (first | (go_at_call 26; refine (floor_calls _ _).mono ?_; rintro e w' ⟨rfl, rfl⟩))
        go_ret2
        exact ⟨(by rw [HF.out]; rfl), (by rw [HF.out]; exact by (apply Put.to; (repeat (with_reducible first | exact hp1 | exact Put.refl H.out | apply Put.set_ | apply Put.drewN | apply Put.drew | apply Put.alloc | refine Put.far ?_ (by simpa using hb1) hg0 _)); (first | (simp [Pt.cells, Pt.under0, Pt.enters, Pt.search, Pt.num1, Pt.toBase]; done) | rfl)))⟩
      · by_cases a4 : s.usize ≤ m
        · have hfin : ({ s with now := n } : Pt).tooBig p m = (false, ({ s with now := n } : Pt)) := by unfold Pt.tooBig; rw [if_neg (show ¬ s.unum = 0 from a1)]; rw [if_pos (show p = s.unum from a2)]; rw [if_neg (show ¬ m < floorOf s.v from a3)]; rw [if_pos (show s.usize ≤ m from a4)]
          have HF := Lib.hid hfin
          clear hfin
          have a1_t : (s.unum == 0) = false := beq_eq_false_iff_ne.2 a1
          have a1_u : (s.unum != 0) = true := bne_iff_ne.2 a1
          clear a1
          have a2_t : (p == s.unum) = true := beq_iff_eq.2 a2
          have a2_u : (p != s.unum) = false := bne_eq_false_iff_eq.2 a2
          clear a2
          have a3_t : decide (m < floorOf s.v) = false := decide_eq_false a3
          have a3_u : floorOf s.v ≤ m := by omega
          clear a3
          have a4_t : decide (s.usize ≤ m) = true := decide_eq_true a4
          have hg0 := H.out.lt
          go_enter Try.func29, Try.ntmps29
          go_wp2_with (go_at_call 37; (with_reducible refine (clock_yes s g n _ H.out h1 h2).mono ?_); rintro e w1 ⟨rfl, hp1⟩; obtain ⟨c1_0, _, _, _, _, _, _, c1_7, c1_8, _, _, _, _, _, c1_14, c1_15, c1_16, c1_17, _, _, _⟩ := Is.all hp1.blk; have hf1 := Is.cell0 hp1.blk; (try dsimp only at c1_0 c1_7 c1_8 c1_14 c1_15 c1_16 c1_17); have hlt1 := hp1.blk.lt; have hb1 := hp1.size; have hal1 : ∀ o i, (w1.alloc o).cell? ⟨g, i, none⟩ = w1.cell? ⟨g, i, none⟩ := fun o i => World.cell?_alloc_lt w1 o ⟨g, i, none⟩ hlt1; have hfl1 : ∀ o i, (w1.alloc o).frozen? ⟨g, i, none⟩ = false := fun o i => (hp1.blk.alloc o).frozen i; have hne1 : ¬ g = w1.heap.size := (by omega); have hne2 : ¬ w1.heap.size = g := (by omega))
          go_wp2_with (first | (go_at_call 26; refine (floor_calls _ _).mono ?_; rintro e w' ⟨rfl, rfl⟩))
          go_ret2
          exact ⟨(by rw [HF.out]; rfl), (by rw [HF.out]; exact by (apply Put.to; (repeat (with_reducible first | exact hp1 | exact Put.refl H.out | apply Put.set_ | apply Put.drewN | apply Put.drew | apply Put.alloc | refine Put.far ?_ (by simpa using hb1) hg0 _)); (first | (simp [Pt.cells, Pt.under0, Pt.enters, Pt.search, Pt.num1, Pt.toBase]; done) | rfl)))⟩
        · by_cases a5 : s.state = 2
          · by_cases a6 : m < s.low
            · have hfin : ({ s with now := n } : Pt).tooBig p m = (false, ({ s with now := n } : Pt)) := by unfold Pt.tooBig; rw [if_neg (show ¬ s.unum = 0 from a1)]; rw [if_pos (show p = s.unum from a2)]; rw [if_neg (show ¬ m < floorOf s.v from a3)]; rw [if_neg (show ¬ s.usize ≤ m from a4)]; rw [if_pos (show s.state = 2 from a5)]; rw [if_pos (show m < s.low from a6)]
              have HF := Lib.hid hfin
              clear hfin
              have a1_t : (s.unum == 0) = false := beq_eq_false_iff_ne.2 a1
              have a1_u : (s.unum != 0) = true := bne_iff_ne.2 a1
              clear a1
              have a2_t : (p == s.unum) = true := beq_iff_eq.2 a2
              have a2_u : (p != s.unum) = false := bne_eq_false_iff_eq.2 a2
              clear a2
              have a3_t : decide (m < floorOf s.v) = false := decide_eq_false a3
              have a3_u : floorOf s.v ≤ m := by omega
              clear a3
              have a4_t : decide (s.usize ≤ m) = false := decide_eq_false a4
              have a4_u : m < s.usize := by omega
              clear a4
              have a5_t : (s.state == 2) = true := beq_iff_eq.2 a5
              have a5_u : (s.state != 2) = false := bne_eq_false_iff_eq.2 a5
              clear a5
              have a6_t : decide (m < s.low) = true := decide_eq_true a6
              have hg0 := H.out.lt
              go_enter Try.func29, Try.ntmps29
              go_wp2_with (go_at_call 37; (with_reducible refine (clock_yes s g n _ H.out h1 h2).mono ?_); rintro e w1 ⟨rfl, hp1⟩; obtain ⟨c1_0, _, _, _, _, _, _, c1_7, c1_8, _, _, _, _, _, c1_14, c1_15, c1_16, c1_17, _, _, _⟩ := Is.all hp1.blk; have hf1 := Is.cell0 hp1.blk; (try dsimp only at c1_0 c1_7 c1_8 c1_14 c1_15 c1_16 c1_17); have hlt1 := hp1.blk.lt; have hb1 := hp1.size; have hal1 : ∀ o i, (w1.alloc o).cell? ⟨g, i, none⟩ = w1.cell? ⟨g, i, none⟩ := fun o i => World.cell?_alloc_lt w1 o ⟨g, i, none⟩ hlt1; have hfl1 : ∀ o i, (w1.alloc o).frozen? ⟨g, i, none⟩ = false := fun o i => (hp1.blk.alloc o).frozen i; have hne1 : ¬ g = w1.heap.size := (by omega); have hne2 : ¬ w1.heap.size = g := (by omega))
              go_wp2_with (first | (go_at_call 26; refine (floor_calls _ _).mono ?_; rintro e w' ⟨rfl, rfl⟩))
              go_ret2
              exact ⟨(by rw [HF.out]; rfl), (by rw [HF.out]; exact by (apply Put.to; (repeat (with_reducible first | exact hp1 | exact Put.refl H.out | apply Put.set_ | apply Put.drewN | apply Put.drew | apply Put.alloc | refine Put.far ?_ (by simpa using hb1) hg0 _)); (first | (simp [Pt.cells, Pt.under0, Pt.enters, Pt.search, Pt.num1, Pt.toBase]; done) | rfl)))⟩
            · by_cases a7 : s.low < m
              · have hfin : ({ s with now := n } : Pt).tooBig p m = (true, { ({ s with now := n } : Pt).under0 0 with hsize := m, hheard := true }) := by unfold Pt.tooBig; rw [if_neg (show ¬ s.unum = 0 from a1)]; rw [if_pos (show p = s.unum from a2)]; rw [if_neg (show ¬ m < floorOf s.v from a3)]; rw [if_neg (show ¬ s.usize ≤ m from a4)]; rw [if_pos (show s.state = 2 from a5)]; rw [if_neg (show ¬ m < s.low from a6)]; rw [if_pos (show s.low < m from a7)]
                have HF := Lib.hid hfin
                clear hfin
                have a1_t : (s.unum == 0) = false := beq_eq_false_iff_ne.2 a1
                have a1_u : (s.unum != 0) = true := bne_iff_ne.2 a1
                clear a1
                have a2_t : (p == s.unum) = true := beq_iff_eq.2 a2
                have a2_u : (p != s.unum) = false := bne_eq_false_iff_eq.2 a2
                clear a2
                have a3_t : decide (m < floorOf s.v) = false := decide_eq_false a3
                have a3_u : floorOf s.v ≤ m := by omega
                clear a3
                have a4_t : decide (s.usize ≤ m) = false := decide_eq_false a4
                have a4_u : m < s.usize := by omega
                clear a4
                have a5_t : (s.state == 2) = true := beq_iff_eq.2 a5
                have a5_u : (s.state != 2) = false := bne_eq_false_iff_eq.2 a5
                clear a5
                have a6_t : decide (m < s.low) = false := decide_eq_false a6
                have a6_u : s.low ≤ m := by omega
                clear a6
                have a7_t : decide (s.low < m) = true := decide_eq_true a7
                have hg0 := H.out.lt
                go_enter Try.func29, Try.ntmps29
                go_wp2_with (go_at_call 37; (with_reducible refine (clock_yes s g n _ H.out h1 h2).mono ?_); rintro e w1 ⟨rfl, hp1⟩; obtain ⟨c1_0, _, _, _, _, _, _, c1_7, c1_8, _, _, _, _, _, c1_14, c1_15, c1_16, c1_17, _, _, _⟩ := Is.all hp1.blk; have hf1 := Is.cell0 hp1.blk; (try dsimp only at c1_0 c1_7 c1_8 c1_14 c1_15 c1_16 c1_17); have hlt1 := hp1.blk.lt; have hb1 := hp1.size; have hal1 : ∀ o i, (w1.alloc o).cell? ⟨g, i, none⟩ = w1.cell? ⟨g, i, none⟩ := fun o i => World.cell?_alloc_lt w1 o ⟨g, i, none⟩ hlt1; have hfl1 : ∀ o i, (w1.alloc o).frozen? ⟨g, i, none⟩ = false := fun o i => (hp1.blk.alloc o).frozen i; have hne1 : ¬ g = w1.heap.size := (by omega); have hne2 : ¬ w1.heap.size = g := (by omega))
                go_wp2_with (first | (go_at_call 26; refine (floor_calls _ _).mono ?_; rintro e w' ⟨rfl, rfl⟩))
                go_ret2
                exact ⟨(by rw [HF.out]; rfl), (by rw [HF.out]; exact by (apply Put.to; (repeat (with_reducible first | exact hp1 | exact Put.refl H.out | apply Put.set_ | apply Put.drewN | apply Put.drew | apply Put.alloc | refine Put.far ?_ (by simpa using hb1) hg0 _)); (first | (simp [Pt.cells, Pt.under0, Pt.enters, Pt.search, Pt.num1, Pt.toBase]; done) | rfl)))⟩
              · have hfin : ({ s with now := n } : Pt).tooBig p m = (true, ({ s with now := n } : Pt).drop) := by unfold Pt.tooBig; rw [if_neg (show ¬ s.unum = 0 from a1)]; rw [if_pos (show p = s.unum from a2)]; rw [if_neg (show ¬ m < floorOf s.v from a3)]; rw [if_neg (show ¬ s.usize ≤ m from a4)]; rw [if_pos (show s.state = 2 from a5)]; rw [if_neg (show ¬ m < s.low from a6)]; rw [if_neg (show ¬ s.low < m from a7)]
                have HF := Lib.hid hfin
                clear hfin
                have a1_t : (s.unum == 0) = false := beq_eq_false_iff_ne.2 a1
                have a1_u : (s.unum != 0) = true := bne_iff_ne.2 a1
                clear a1
                have a2_t : (p == s.unum) = true := beq_iff_eq.2 a2
                have a2_u : (p != s.unum) = false := bne_eq_false_iff_eq.2 a2
                clear a2
                have a3_t : decide (m < floorOf s.v) = false := decide_eq_false a3
                have a3_u : floorOf s.v ≤ m := by omega
                clear a3
                have a4_t : decide (s.usize ≤ m) = false := decide_eq_false a4
                have a4_u : m < s.usize := by omega
                clear a4
                have a5_t : (s.state == 2) = true := beq_iff_eq.2 a5
                have a5_u : (s.state != 2) = false := bne_eq_false_iff_eq.2 a5
                clear a5
                have a6_t : decide (m < s.low) = false := decide_eq_false a6
                have a6_u : s.low ≤ m := by omega
                clear a6
                have a7_t : decide (s.low < m) = false := decide_eq_false a7
                have a7_u : m ≤ s.low := by omega
                clear a7
                have hg0 := H.out.lt
                go_enter Try.func29, Try.ntmps29
                go_wp2_with (go_at_call 37; (with_reducible refine (clock_yes s g n _ H.out h1 h2).mono ?_); rintro e w1 ⟨rfl, hp1⟩; obtain ⟨c1_0, _, _, _, _, _, _, c1_7, c1_8, _, _, _, _, _, c1_14, c1_15, c1_16, c1_17, _, _, _⟩ := Is.all hp1.blk; have hf1 := Is.cell0 hp1.blk; (try dsimp only at c1_0 c1_7 c1_8 c1_14 c1_15 c1_16 c1_17); have hlt1 := hp1.blk.lt; have hb1 := hp1.size; have hal1 : ∀ o i, (w1.alloc o).cell? ⟨g, i, none⟩ = w1.cell? ⟨g, i, none⟩ := fun o i => World.cell?_alloc_lt w1 o ⟨g, i, none⟩ hlt1; have hfl1 : ∀ o i, (w1.alloc o).frozen? ⟨g, i, none⟩ = false := fun o i => (hp1.blk.alloc o).frozen i; have hne1 : ¬ g = w1.heap.size := (by omega); have hne2 : ¬ w1.heap.size = g := (by omega))
                go_wp2_with (first | (go_at_call 26; refine (floor_calls _ _).mono ?_; rintro e w' ⟨rfl, rfl⟩) | (go_at_call 38; (with_reducible refine (drop_calls ({ s with now := n } : Pt) g _ ?qis hm0).mono ?_); (case qis => apply is_of (w := w); (repeat (with_reducible first | exact hp1 | exact Put.refl H.out | apply Put.set_ | apply Put.drewN | apply Put.drew | apply Put.alloc | refine Put.far ?_ (by simpa using hb1) hg0 _)); (first | (simp [Pt.cells, Pt.under0, Pt.enters, Pt.search, Pt.num1, Pt.toBase]; done) | rfl)); rintro e w3 ⟨rfl, hp3⟩))
                go_ret2
                exact ⟨(by rw [HF.out]; rfl), (by rw [HF.out]; exact by (apply Put.to; (repeat (with_reducible first | apply Put.after hp3 | exact hp1 | exact Put.refl H.out | apply Put.set_ | apply Put.drewN | apply Put.drew | apply Put.alloc | refine Put.far ?_ (by simpa using hb1) hg0 _)); (first | (simp [Pt.cells, Pt.under0, Pt.enters, Pt.search, Pt.num1, Pt.toBase]; done) | rfl)))⟩
          · have hfin : ({ s with now := n } : Pt).tooBig p m = (true, ({ s with now := n } : Pt).drop) := by unfold Pt.tooBig; rw [if_neg (show ¬ s.unum = 0 from a1)]; rw [if_pos (show p = s.unum from a2)]; rw [if_neg (show ¬ m < floorOf s.v from a3)]; rw [if_neg (show ¬ s.usize ≤ m from a4)]; rw [if_neg (show ¬ s.state = 2 from a5)]
            have HF := Lib.hid hfin
            clear hfin
            have a1_t : (s.unum == 0) = false := beq_eq_false_iff_ne.2 a1
            have a1_u : (s.unum != 0) = true := bne_iff_ne.2 a1
            clear a1
            have a2_t : (p == s.unum) = true := beq_iff_eq.2 a2
            have a2_u : (p != s.unum) = false := bne_eq_false_iff_eq.2 a2
            clear a2
            have a3_t : decide (m < floorOf s.v) = false := decide_eq_false a3
            have a3_u : floorOf s.v ≤ m := by omega
            clear a3
            have a4_t : decide (s.usize ≤ m) = false := decide_eq_false a4
            have a4_u : m < s.usize := by omega
            clear a4
            have a5_t : (s.state == 2) = false := beq_eq_false_iff_ne.2 a5
            have a5_u : (s.state != 2) = true := bne_iff_ne.2 a5
            clear a5
            have hg0 := H.out.lt
            go_enter Try.func29, Try.ntmps29
            go_wp2_with (go_at_call 37; (with_reducible refine (clock_yes s g n _ H.out h1 h2).mono ?_); rintro e w1 ⟨rfl, hp1⟩; obtain ⟨c1_0, _, _, _, _, _, _, c1_7, c1_8, _, _, _, _, _, c1_14, c1_15, c1_16, c1_17, _, _, _⟩ := Is.all hp1.blk; have hf1 := Is.cell0 hp1.blk; (try dsimp only at c1_0 c1_7 c1_8 c1_14 c1_15 c1_16 c1_17); have hlt1 := hp1.blk.lt; have hb1 := hp1.size; have hal1 : ∀ o i, (w1.alloc o).cell? ⟨g, i, none⟩ = w1.cell? ⟨g, i, none⟩ := fun o i => World.cell?_alloc_lt w1 o ⟨g, i, none⟩ hlt1; have hfl1 : ∀ o i, (w1.alloc o).frozen? ⟨g, i, none⟩ = false := fun o i => (hp1.blk.alloc o).frozen i; have hne1 : ¬ g = w1.heap.size := (by omega); have hne2 : ¬ w1.heap.size = g := (by omega))
            go_wp2_with (first | (go_at_call 26; refine (floor_calls _ _).mono ?_; rintro e w' ⟨rfl, rfl⟩) | (go_at_call 38; (with_reducible refine (drop_calls ({ s with now := n } : Pt) g _ ?qis hm0).mono ?_); (case qis => apply is_of (w := w); (repeat (with_reducible first | exact hp1 | exact Put.refl H.out | apply Put.set_ | apply Put.drewN | apply Put.drew | apply Put.alloc | refine Put.far ?_ (by simpa using hb1) hg0 _)); (first | (simp [Pt.cells, Pt.under0, Pt.enters, Pt.search, Pt.num1, Pt.toBase]; done) | rfl)); rintro e w3 ⟨rfl, hp3⟩))
            go_ret2
            exact ⟨(by rw [HF.out]; rfl), (by rw [HF.out]; exact by (apply Put.to; (repeat (with_reducible first | apply Put.after hp3 | exact hp1 | exact Put.refl H.out | apply Put.set_ | apply Put.drewN | apply Put.drew | apply Put.alloc | refine Put.far ?_ (by simpa using hb1) hg0 _)); (first | (simp [Pt.cells, Pt.under0, Pt.enters, Pt.search, Pt.num1, Pt.toBase]; done) | rfl)))⟩
    · have hfin : ({ s with now := n } : Pt).tooBig p m = (false, ({ s with now := n } : Pt)) := by unfold Pt.tooBig; rw [if_neg (show ¬ s.unum = 0 from a1)]; rw [if_neg (show ¬ p = s.unum from a2)]
      have HF := Lib.hid hfin
      clear hfin
      have a1_t : (s.unum == 0) = false := beq_eq_false_iff_ne.2 a1
      have a1_u : (s.unum != 0) = true := bne_iff_ne.2 a1
      clear a1
      have a2_t : (p == s.unum) = false := beq_eq_false_iff_ne.2 a2
      have a2_u : (p != s.unum) = true := bne_iff_ne.2 a2
      clear a2
      have hg0 := H.out.lt
      go_enter Try.func29, Try.ntmps29
      go_wp2_with (go_at_call 37; (with_reducible refine (clock_yes s g n _ H.out h1 h2).mono ?_); rintro e w1 ⟨rfl, hp1⟩; obtain ⟨c1_0, _, _, _, _, _, _, c1_7, c1_8, _, _, _, _, _, c1_14, c1_15, c1_16, c1_17, _, _, _⟩ := Is.all hp1.blk; have hf1 := Is.cell0 hp1.blk; (try dsimp only at c1_0 c1_7 c1_8 c1_14 c1_15 c1_16 c1_17); have hlt1 := hp1.blk.lt; have hb1 := hp1.size; have hal1 : ∀ o i, (w1.alloc o).cell? ⟨g, i, none⟩ = w1.cell? ⟨g, i, none⟩ := fun o i => World.cell?_alloc_lt w1 o ⟨g, i, none⟩ hlt1; have hfl1 : ∀ o i, (w1.alloc o).frozen? ⟨g, i, none⟩ = false := fun o i => (hp1.blk.alloc o).frozen i; have hne1 : ¬ g = w1.heap.size := (by omega); have hne2 : ¬ w1.heap.size = g := (by omega))
      go_wp2_with (first | (go_at_call 26; refine (floor_calls _ _).mono ?_; rintro e w' ⟨rfl, rfl⟩))
      go_ret2
      exact ⟨(by rw [HF.out]; rfl), (by rw [HF.out]; exact by (apply Put.to; (repeat (with_reducible first | exact hp1 | exact Put.refl H.out | apply Put.set_ | apply Put.drewN | apply Put.drew | apply Put.alloc | refine Put.far ?_ (by simpa using hb1) hg0 _)); (first | (simp [Pt.cells, Pt.under0, Pt.enters, Pt.search, Pt.num1, Pt.toBase]; done) | rfl)))⟩
set_option maxRecDepth 100000 in
set_option maxHeartbeats 4000000 in
theorem acked_yes (s : Pt) (g : Nat) (p : Int) (n : Int) (w : World) (h1 : ¬ n < s.now) (h2 : ¬ 1099511627776 < n) (hx : Sm ({ s with now := n } : Pt).acked1) (hy : Sm ({ ({ s with now := n } : Pt).under0 0 with losses := 0, low := s.base } : Pt)) (h : Is w g s) (hm : Sm s) :
    Calls Try.prog 28 #[.pointer (some ⟨g, 0, none⟩), .int .i64 p, .int .i64 n] w fun e w' => e = .returned (.tuple #[.bool (({ s with now := n } : Pt).acked p).1, .int .i64 0]) ∧ Put w w' g 66 (({ s with now := n } : Pt).acked p).2.cells := by
  have H := Lib.hid h; clear h
  obtain ⟨z0, z1⟩ := hm.usize
  obtain ⟨z2, z3⟩ := hm.high
  clear hm
  by_cases a1 : s.unum = 0
  · clear hx hy
    have hfin : ({ s with now := n } : Pt).acked p = (false, ({ s with now := n } : Pt)) := by unfold Pt.acked; rw [if_pos (show s.unum = 0 from a1)]
    have HF := Lib.hid hfin
    clear hfin
    have a1_t : (s.unum == 0) = true := beq_iff_eq.2 a1
    have a1_u : (s.unum != 0) = false := bne_eq_false_iff_eq.2 a1
    clear a1
    have hg0 := H.out.lt
    go_enter Try.func28, Try.ntmps28
    go_wp2_with (go_at_call 37; (with_reducible refine (clock_yes s g n _ H.out h1 h2).mono ?_); rintro e w1 ⟨rfl, hp1⟩; obtain ⟨_, c1_1, _, _, _, _, _, c1_7, _, c1_9, _, _, _, _, c1_14, c1_15, c1_16, c1_17, _, _, _⟩ := Is.all hp1.blk; have hf1 := Is.cell0 hp1.blk; (try dsimp only at c1_1 c1_7 c1_9 c1_14 c1_15 c1_16 c1_17); have hlt1 := hp1.blk.lt; have hb1 := hp1.size; have hal1 : ∀ o i, (w1.alloc o).cell? ⟨g, i, none⟩ = w1.cell? ⟨g, i, none⟩ := fun o i => World.cell?_alloc_lt w1 o ⟨g, i, none⟩ hlt1; have hfl1 : ∀ o i, (w1.alloc o).frozen? ⟨g, i, none⟩ = false := fun o i => (hp1.blk.alloc o).frozen i; have hne1 : ¬ g = w1.heap.size := (by omega); have hne2 : ¬ w1.heap.size = g := (by omega))
    go_wp2
    go_ret2
    exact ⟨(by rw [HF.out]; rfl), (by rw [HF.out]; exact by (apply Put.to; (repeat (with_reducible first | exact hp1 | exact Put.refl H.out | apply Put.set_ | apply Put.drewN | apply Put.drew | apply Put.alloc | refine Put.far ?_ (by simpa using hb1) hg0 _)); (first | (simp [Pt.cells, Pt.under0, Pt.enters, Pt.search, Pt.num1, Pt.toBase]; done) | rfl)))⟩
  · by_cases a2 : p = s.unum
    · by_cases a5 : s.state = 1
      · have hxe : ({ s with now := n } : Pt).acked1 = ({ ({ s with now := n } : Pt).under0 0 with losses := 0, low := s.base } : Pt).search := by unfold Pt.acked1; rw [if_pos (show s.state = 1 from a5)]
        rw [hxe] at hx
        have hx := Lib.hid hx
        have hy := Lib.hid hy
        have hfin : ({ s with now := n } : Pt).acked p = (true, ({ ({ s with now := n } : Pt).under0 0 with losses := 0, low := s.base } : Pt).search.settled) := by unfold Pt.acked; rw [if_neg (show ¬ s.unum = 0 from a1)]; rw [if_pos (show p = s.unum from a2)]; rw [hxe]
        have HF := Lib.hid hfin
        clear hfin
        clear hxe
        have a1_t : (s.unum == 0) = false := beq_eq_false_iff_ne.2 a1
        have a1_u : (s.unum != 0) = true := bne_iff_ne.2 a1
        clear a1
        have a2_t : (p == s.unum) = true := beq_iff_eq.2 a2
        have a2_u : (p != s.unum) = false := bne_eq_false_iff_eq.2 a2
        clear a2
        have a5_t : (s.state == 1) = true := beq_iff_eq.2 a5
        have a5_u : (s.state != 1) = false := bne_eq_false_iff_eq.2 a5
        clear a5
        have hg0 := H.out.lt
        go_enter Try.func28, Try.ntmps28
        go_wp2_with (go_at_call 37; (with_reducible refine (clock_yes s g n _ H.out h1 h2).mono ?_); rintro e w1 ⟨rfl, hp1⟩; obtain ⟨_, c1_1, _, _, _, _, _, c1_7, _, c1_9, _, _, _, _, c1_14, c1_15, c1_16, c1_17, _, _, _⟩ := Is.all hp1.blk; have hf1 := Is.cell0 hp1.blk; (try dsimp only at c1_1 c1_7 c1_9 c1_14 c1_15 c1_16 c1_17); have hlt1 := hp1.blk.lt; have hb1 := hp1.size; have hal1 : ∀ o i, (w1.alloc o).cell? ⟨g, i, none⟩ = w1.cell? ⟨g, i, none⟩ := fun o i => World.cell?_alloc_lt w1 o ⟨g, i, none⟩ hlt1; have hfl1 : ∀ o i, (w1.alloc o).frozen? ⟨g, i, none⟩ = false := fun o i => (hp1.blk.alloc o).frozen i; have hne1 : ¬ g = w1.heap.size := (by omega); have hne2 : ¬ w1.heap.size = g := (by omega))
        go_wp2_with (first | (go_at_call 39; (with_reducible refine (search_calls ({ ({ s with now := n } : Pt).under0 0 with losses := 0, low := s.base } : Pt) g _ ?qis hy.out).mono ?_); (case qis => apply is_of (w := w); (repeat (with_reducible first | exact hp1 | exact Put.refl H.out | apply Put.set_ | apply Put.drewN | apply Put.drew | apply Put.alloc | refine Put.far ?_ (by simpa using hb1) hg0 _)); (first | (simp [Pt.cells, Pt.under0, Pt.enters, Pt.search, Pt.num1, Pt.toBase]; done) | rfl)); rintro e w3 ⟨rfl, hp3⟩) | (go_at_call 42; (with_reducible refine (settled_calls ({ ({ s with now := n } : Pt).under0 0 with losses := 0, low := s.base } : Pt).search g _ ?qis hx.out).mono ?_); (case qis => apply is_of (w := w); (repeat (with_reducible first | apply Put.after hp3 | exact hp1 | exact Put.refl H.out | apply Put.set_ | apply Put.drewN | apply Put.drew | apply Put.alloc | refine Put.far ?_ (by simpa using hb1) hg0 _)); (first | (simp [Pt.cells, Pt.under0, Pt.enters, Pt.search, Pt.num1, Pt.toBase]; done) | rfl)); rintro e w4 ⟨rfl, hp4⟩))
        go_ret2
        exact ⟨(by rw [HF.out]; rfl), (by rw [HF.out]; exact by (apply Put.to; (repeat (with_reducible first | apply Put.after hp4 | apply Put.after hp3 | exact hp1 | exact Put.refl H.out | apply Put.set_ | apply Put.drewN | apply Put.drew | apply Put.alloc | refine Put.far ?_ (by simpa using hb1) hg0 _)); (first | (simp [Pt.cells, Pt.under0, Pt.enters, Pt.search, Pt.num1, Pt.toBase]; done) | rfl)))⟩
      · by_cases a6 : s.uheard = true
        · by_cases a7 : s.usize < s.high - 1
          · have hxe : ({ s with now := n } : Pt).acked1 = ({ ({ s with now := n } : Pt).under0 0 with losses := 0, low := s.usize, hsize := s.usize + 1, hheard := false } : Pt) := by unfold Pt.acked1; rw [if_neg (show ¬ s.state = 1 from a5)]; rw [if_pos (show s.uheard = true from a6)]; rw [if_pos (show s.usize < s.high - 1 from a7)]
            rw [hxe] at hx
            have hx := Lib.hid hx
            have hy := Lib.hid hy
            have hfin : ({ s with now := n } : Pt).acked p = (true, ({ ({ s with now := n } : Pt).under0 0 with losses := 0, low := s.usize, hsize := s.usize + 1, hheard := false } : Pt).settled) := by unfold Pt.acked; rw [if_neg (show ¬ s.unum = 0 from a1)]; rw [if_pos (show p = s.unum from a2)]; rw [hxe]
            have HF := Lib.hid hfin
            clear hfin
            clear hxe
            have a1_t : (s.unum == 0) = false := beq_eq_false_iff_ne.2 a1
            have a1_u : (s.unum != 0) = true := bne_iff_ne.2 a1
            clear a1
            have a2_t : (p == s.unum) = true := beq_iff_eq.2 a2
            have a2_u : (p != s.unum) = false := bne_eq_false_iff_eq.2 a2
            clear a2
            have a5_t : (s.state == 1) = false := beq_eq_false_iff_ne.2 a5
            have a5_u : (s.state != 1) = true := bne_iff_ne.2 a5
            clear a5
            have a6_t : s.uheard = true := a6
            have a7_t : decide (s.usize < s.high - 1) = true := decide_eq_true a7
            have hg0 := H.out.lt
            go_enter Try.func28, Try.ntmps28
            go_wp2_with (go_at_call 37; (with_reducible refine (clock_yes s g n _ H.out h1 h2).mono ?_); rintro e w1 ⟨rfl, hp1⟩; obtain ⟨_, c1_1, _, _, _, _, _, c1_7, _, c1_9, _, _, _, _, c1_14, c1_15, c1_16, c1_17, _, _, _⟩ := Is.all hp1.blk; have hf1 := Is.cell0 hp1.blk; (try dsimp only at c1_1 c1_7 c1_9 c1_14 c1_15 c1_16 c1_17); have hlt1 := hp1.blk.lt; have hb1 := hp1.size; have hal1 : ∀ o i, (w1.alloc o).cell? ⟨g, i, none⟩ = w1.cell? ⟨g, i, none⟩ := fun o i => World.cell?_alloc_lt w1 o ⟨g, i, none⟩ hlt1; have hfl1 : ∀ o i, (w1.alloc o).frozen? ⟨g, i, none⟩ = false := fun o i => (hp1.blk.alloc o).frozen i; have hne1 : ¬ g = w1.heap.size := (by omega); have hne2 : ¬ w1.heap.size = g := (by omega))
            go_quiet (fail)
            go_wp2_with (first | (go_at_call 42; (with_reducible refine (settled_calls ({ ({ s with now := n } : Pt).under0 0 with losses := 0, low := s.usize, hsize := s.usize + 1, hheard := false } : Pt) g _ ?qis hx.out).mono ?_); (case qis => apply is_of (w := w); (repeat (with_reducible first | exact hp1 | exact Put.refl H.out | apply Put.set_ | apply Put.drewN | apply Put.drew | apply Put.alloc | refine Put.far ?_ (by simpa using hb1) hg0 _)); (first | (simp [Pt.cells, Pt.under0, Pt.enters, Pt.search, Pt.num1, Pt.toBase]; done) | rfl)); rintro e w4 ⟨rfl, hp4⟩))
            go_ret2
            exact ⟨(by rw [HF.out]; rfl), (by rw [HF.out]; exact by (apply Put.to; (repeat (with_reducible first | apply Put.after hp4 | exact hp1 | exact Put.refl H.out | apply Put.set_ | apply Put.drewN | apply Put.drew | apply Put.alloc | refine Put.far ?_ (by simpa using hb1) hg0 _)); (first | (simp [Pt.cells, Pt.under0, Pt.enters, Pt.search, Pt.num1, Pt.toBase]; done) | rfl)))⟩
          · have hxe : ({ s with now := n } : Pt).acked1 = ({ ({ s with now := n } : Pt).under0 0 with losses := 0, low := s.usize, hsize := 0, hheard := false } : Pt) := by unfold Pt.acked1; rw [if_neg (show ¬ s.state = 1 from a5)]; rw [if_pos (show s.uheard = true from a6)]; rw [if_neg (show ¬ s.usize < s.high - 1 from a7)]
            rw [hxe] at hx
            have hx := Lib.hid hx
            have hy := Lib.hid hy
            have hfin : ({ s with now := n } : Pt).acked p = (true, ({ ({ s with now := n } : Pt).under0 0 with losses := 0, low := s.usize, hsize := 0, hheard := false } : Pt).settled) := by unfold Pt.acked; rw [if_neg (show ¬ s.unum = 0 from a1)]; rw [if_pos (show p = s.unum from a2)]; rw [hxe]
            have HF := Lib.hid hfin
            clear hfin
            clear hxe
            have a1_t : (s.unum == 0) = false := beq_eq_false_iff_ne.2 a1
            have a1_u : (s.unum != 0) = true := bne_iff_ne.2 a1
            clear a1
            have a2_t : (p == s.unum) = true := beq_iff_eq.2 a2
            have a2_u : (p != s.unum) = false := bne_eq_false_iff_eq.2 a2
            clear a2
            have a5_t : (s.state == 1) = false := beq_eq_false_iff_ne.2 a5
            have a5_u : (s.state != 1) = true := bne_iff_ne.2 a5
            clear a5
            have a6_t : s.uheard = true := a6
            have a7_t : decide (s.usize < s.high - 1) = false := decide_eq_false a7
            have a7_u : s.high - 1 ≤ s.usize := by omega
            clear a7
            have hg0 := H.out.lt
            go_enter Try.func28, Try.ntmps28
            go_wp2_with (go_at_call 37; (with_reducible refine (clock_yes s g n _ H.out h1 h2).mono ?_); rintro e w1 ⟨rfl, hp1⟩; obtain ⟨_, c1_1, _, _, _, _, _, c1_7, _, c1_9, _, _, _, _, c1_14, c1_15, c1_16, c1_17, _, _, _⟩ := Is.all hp1.blk; have hf1 := Is.cell0 hp1.blk; (try dsimp only at c1_1 c1_7 c1_9 c1_14 c1_15 c1_16 c1_17); have hlt1 := hp1.blk.lt; have hb1 := hp1.size; have hal1 : ∀ o i, (w1.alloc o).cell? ⟨g, i, none⟩ = w1.cell? ⟨g, i, none⟩ := fun o i => World.cell?_alloc_lt w1 o ⟨g, i, none⟩ hlt1; have hfl1 : ∀ o i, (w1.alloc o).frozen? ⟨g, i, none⟩ = false := fun o i => (hp1.blk.alloc o).frozen i; have hne1 : ¬ g = w1.heap.size := (by omega); have hne2 : ¬ w1.heap.size = g := (by omega))
            go_quiet (fail)
            go_wp2_with (first | (go_at_call 42; (with_reducible refine (settled_calls ({ ({ s with now := n } : Pt).under0 0 with losses := 0, low := s.usize, hsize := 0, hheard := false } : Pt) g _ ?qis hx.out).mono ?_); (case qis => apply is_of (w := w); (repeat (with_reducible first | exact hp1 | exact Put.refl H.out | apply Put.set_ | apply Put.drewN | apply Put.drew | apply Put.alloc | refine Put.far ?_ (by simpa using hb1) hg0 _)); (first | (simp [Pt.cells, Pt.under0, Pt.enters, Pt.search, Pt.num1, Pt.toBase]; done) | rfl)); rintro e w4 ⟨rfl, hp4⟩))
            go_ret2
            exact ⟨(by rw [HF.out]; rfl), (by rw [HF.out]; exact by (apply Put.to; (repeat (with_reducible first | apply Put.after hp4 | exact hp1 | exact Put.refl H.out | apply Put.set_ | apply Put.drewN | apply Put.drew | apply Put.alloc | refine Put.far ?_ (by simpa using hb1) hg0 _)); (first | (simp [Pt.cells, Pt.under0, Pt.enters, Pt.search, Pt.num1, Pt.toBase]; done) | rfl)))⟩
        · have hxe : ({ s with now := n } : Pt).acked1 = ({ ({ s with now := n } : Pt).under0 0 with losses := 0, low := s.usize, hsize := 0, hheard := false } : Pt) := by unfold Pt.acked1; rw [if_neg (show ¬ s.state = 1 from a5)]; rw [if_neg (show ¬ s.uheard = true from a6)]
          rw [hxe] at hx
          have hx := Lib.hid hx
          have hy := Lib.hid hy
          have hfin : ({ s with now := n } : Pt).acked p = (true, ({ ({ s with now := n } : Pt).under0 0 with losses := 0, low := s.usize, hsize := 0, hheard := false } : Pt).settled) := by unfold Pt.acked; rw [if_neg (show ¬ s.unum = 0 from a1)]; rw [if_pos (show p = s.unum from a2)]; rw [hxe]
          have HF := Lib.hid hfin
          clear hfin
          clear hxe
          have a1_t : (s.unum == 0) = false := beq_eq_false_iff_ne.2 a1
          have a1_u : (s.unum != 0) = true := bne_iff_ne.2 a1
          clear a1
          have a2_t : (p == s.unum) = true := beq_iff_eq.2 a2
          have a2_u : (p != s.unum) = false := bne_eq_false_iff_eq.2 a2
          clear a2
          have a5_t : (s.state == 1) = false := beq_eq_false_iff_ne.2 a5
          have a5_u : (s.state != 1) = true := bne_iff_ne.2 a5
          clear a5
          have a6_t : s.uheard = false := Bool.eq_false_iff.2 a6
          have hg0 := H.out.lt
          go_enter Try.func28, Try.ntmps28
          go_wp2_with (go_at_call 37; (with_reducible refine (clock_yes s g n _ H.out h1 h2).mono ?_); rintro e w1 ⟨rfl, hp1⟩; obtain ⟨_, c1_1, _, _, _, _, _, c1_7, _, c1_9, _, _, _, _, c1_14, c1_15, c1_16, c1_17, _, _, _⟩ := Is.all hp1.blk; have hf1 := Is.cell0 hp1.blk; (try dsimp only at c1_1 c1_7 c1_9 c1_14 c1_15 c1_16 c1_17); have hlt1 := hp1.blk.lt; have hb1 := hp1.size; have hal1 : ∀ o i, (w1.alloc o).cell? ⟨g, i, none⟩ = w1.cell? ⟨g, i, none⟩ := fun o i => World.cell?_alloc_lt w1 o ⟨g, i, none⟩ hlt1; have hfl1 : ∀ o i, (w1.alloc o).frozen? ⟨g, i, none⟩ = false := fun o i => (hp1.blk.alloc o).frozen i; have hne1 : ¬ g = w1.heap.size := (by omega); have hne2 : ¬ w1.heap.size = g := (by omega))
          go_quiet (fail)
          go_wp2_with (first | (go_at_call 42; (with_reducible refine (settled_calls ({ ({ s with now := n } : Pt).under0 0 with losses := 0, low := s.usize, hsize := 0, hheard := false } : Pt) g _ ?qis hx.out).mono ?_); (case qis => apply is_of (w := w); (repeat (with_reducible first | exact hp1 | exact Put.refl H.out | apply Put.set_ | apply Put.drewN | apply Put.drew | apply Put.alloc | refine Put.far ?_ (by simpa using hb1) hg0 _)); (first | (simp [Pt.cells, Pt.under0, Pt.enters, Pt.search, Pt.num1, Pt.toBase]; done) | rfl)); rintro e w4 ⟨rfl, hp4⟩))
          go_ret2
          exact ⟨(by rw [HF.out]; rfl), (by rw [HF.out]; exact by (apply Put.to; (repeat (with_reducible first | apply Put.after hp4 | exact hp1 | exact Put.refl H.out | apply Put.set_ | apply Put.drewN | apply Put.drew | apply Put.alloc | refine Put.far ?_ (by simpa using hb1) hg0 _)); (first | (simp [Pt.cells, Pt.under0, Pt.enters, Pt.search, Pt.num1, Pt.toBase]; done) | rfl)))⟩
    · clear hx hy
      have hfin : ({ s with now := n } : Pt).acked p = (false, ({ s with now := n } : Pt)) := by unfold Pt.acked; rw [if_neg (show ¬ s.unum = 0 from a1)]; rw [if_neg (show ¬ p = s.unum from a2)]
      have HF := Lib.hid hfin
      clear hfin
      have a1_t : (s.unum == 0) = false := beq_eq_false_iff_ne.2 a1
      have a1_u : (s.unum != 0) = true := bne_iff_ne.2 a1
      clear a1
      have a2_t : (p == s.unum) = false := beq_eq_false_iff_ne.2 a2
      have a2_u : (p != s.unum) = true := bne_iff_ne.2 a2
      clear a2
      have hg0 := H.out.lt
      go_enter Try.func28, Try.ntmps28
      go_wp2_with (go_at_call 37; (with_reducible refine (clock_yes s g n _ H.out h1 h2).mono ?_); rintro e w1 ⟨rfl, hp1⟩; obtain ⟨_, c1_1, _, _, _, _, _, c1_7, _, c1_9, _, _, _, _, c1_14, c1_15, c1_16, c1_17, _, _, _⟩ := Is.all hp1.blk; have hf1 := Is.cell0 hp1.blk; (try dsimp only at c1_1 c1_7 c1_9 c1_14 c1_15 c1_16 c1_17); have hlt1 := hp1.blk.lt; have hb1 := hp1.size; have hal1 : ∀ o i, (w1.alloc o).cell? ⟨g, i, none⟩ = w1.cell? ⟨g, i, none⟩ := fun o i => World.cell?_alloc_lt w1 o ⟨g, i, none⟩ hlt1; have hfl1 : ∀ o i, (w1.alloc o).frozen? ⟨g, i, none⟩ = false := fun o i => (hp1.blk.alloc o).frozen i; have hne1 : ¬ g = w1.heap.size := (by omega); have hne2 : ¬ w1.heap.size = g := (by omega))
      go_wp2
      go_ret2
      exact ⟨(by rw [HF.out]; rfl), (by rw [HF.out]; exact by (apply Put.to; (repeat (with_reducible first | exact hp1 | exact Put.refl H.out | apply Put.set_ | apply Put.drewN | apply Put.drew | apply Put.alloc | refine Put.far ?_ (by simpa using hb1) hg0 _)); (first | (simp [Pt.cells, Pt.under0, Pt.enters, Pt.search, Pt.num1, Pt.toBase]; done) | rfl)))⟩
set_option maxRecDepth 100000 in
set_option maxHeartbeats 4000000 in
theorem next_b (s : Pt) (g : Nat)  (n : Int) (w : World) (h1 : ¬ n < s.now) (h2 : ¬ 1099511627776 < n) (hqq : Sm (({ s with now := n } : Pt).raised n).num1 ∧ ((({ s with now := n } : Pt).raised n).state = 1 ∨ (({ s with now := n } : Pt).raised n).state = 2 → (({ s with now := n } : Pt).raised n).state = 1 ∨ (({ s with now := n } : Pt).raised n).low ≤ (({ s with now := n } : Pt).raised n).high)) (h3 : ¬ 0 < ({ s with now := n } : Pt).unum) (h : Is w g s) (hm : Sm s) :
    Calls Try.prog 22 #[.pointer (some ⟨g, 0, none⟩), .int .i64 n] w fun e w' => e = .returned (.tuple #[.int .i64 (({ s with now := n } : Pt).next n).1.1, .int .i64 (({ s with now := n } : Pt).next n).1.2, .int .i64 0]) ∧ Put w w' g 66 (({ s with now := n } : Pt).next n).2.cells := by
  have H := Lib.hid h; clear h
  obtain ⟨z0, z1⟩ := hm.now
  have hn0 : 0 ≤ n := by omega
  have hn1 : n ≤ 1099511627776 := by omega
  clear z0 z1
  have hsm := hm.at_ h1 h2
  clear hm
  obtain ⟨S, hS⟩ : ∃ S, S = ({ s with now := n } : Pt) := ⟨_, rfl⟩
  rw [← hS] at hqq hsm h3
  have hne : ({ s with now := n } : Pt).next n = (S.raised n).told n := by unfold Pt.next; rw [← hS, if_neg h3]
  have HS := Lib.hid hS
  clear hS
  have hsm := Lib.hid hsm
  obtain ⟨m80, m81⟩ := hsm.out.uat
  obtain ⟨m90, m91⟩ := hsm.out.since
  obtain ⟨m70, m71⟩ := hsm.out.number
  have h3_t : decide (0 < S.unum) = false := decide_eq_false h3
  have h3_u : S.unum ≤ 0 := by omega
  clear h3
  by_cases r1 : S.raise ≤ n - S.since
  · by_cases r3 : S.state = 3
    · by_cases r4 : S.low < S.most
      · have hre : S.raised n = S.search := by unfold Pt.raised; rw [if_pos r1]; rw [if_pos r3]; rw [if_pos r4]
        have hfin : ({ s with now := n } : Pt).next n = ((S.search.tried.1, S.search.number + 1), { S.search with number := S.search.number + 1, unum := S.search.number + 1, usize := S.search.tried.1, uat := n, uheard := S.search.tried.2 }) := by rw [hne, hre]; unfold Pt.told; rw [if_neg (show ¬ S.search.state = 1 from (by unfold Pt.search; simp))]; rw [if_pos (show S.search.state = 2 from rfl)]
        rw [hre] at hqq
        have hqm : Sm S.search.num1 := hqq.1
        have hql : S.search.num1.state = 1 ∨ S.search.num1.low ≤ S.search.num1.high := hqq.2 (.inr rfl)
        have hqm := Lib.hid hqm
        have hql := Lib.hid hql
        have HF := Lib.hid hfin
        clear hfin hre hqq hne
        have r1_t : decide (S.raise ≤ n - S.since) = true := decide_eq_true r1
        have r3_t : (S.state == 3) = true := beq_iff_eq.2 r3
        have r3_u : (S.state != 3) = false := bne_eq_false_iff_eq.2 r3
        clear r3
        have r4_t : decide (S.low < S.most) = true := decide_eq_true r4
        go_enter Try.func22, Try.ntmps22
        go_wp2_with (go_at_call 37; (with_reducible refine (clock_yes s g n _ H.out h1 h2).mono ?_); rintro e w1 ⟨rfl, hp1⟩; rw [← HS.out] at hp1; obtain ⟨_, _, c1_2, _, _, c1_5, c1_6, c1_7, c1_8, c1_9, _, _, _, _, c1_14, c1_15, c1_16, c1_17, c1_18, c1_19, _⟩ := Is.all hp1.blk; have hf1 := Is.cell0 hp1.blk)
        go_wp2_with fail
        go_quiet (fail)
        go_wp2_with fail
        go_quiet (fail)
        go_wp2_with (first | (go_at_call 39; (with_reducible refine (search_calls S g _ ?qis hsm.out).mono ?_); (case qis => apply is_of (w := w); (repeat (with_reducible first | exact hp1 | exact Put.refl H.out | apply Put.set_ | apply Put.drewN | apply Put.drew | apply Put.alloc | refine Put.far ?_ (by simpa using hb1) hg0 _)); (first | (simp [Pt.cells, Pt.under0, Pt.enters, Pt.search, Pt.num1, Pt.toBase]; done) | rfl)); rintro e w5 ⟨rfl, hp5⟩; obtain ⟨_, _, _, _, _, _, _, c5_7, _, _, _, _, _, _, _, _, _, _, c5_18, _, _⟩ := Is.all hp5.blk; have hf5 := Is.cell0 hp5.blk; (try dsimp only [Pt.search] at c5_7 c5_18)) | (go_at_call 40; (with_reducible refine (tried_calls S.search.num1 g _ ?qis hqm.out hql.out).mono ?_); (case qis => apply is_of (w := w); (repeat (with_reducible first | apply Put.after hp5 | exact hp1 | exact Put.refl H.out | apply Put.set_ | apply Put.drewN | apply Put.drew | apply Put.alloc | refine Put.far ?_ (by simpa using hb1) hg0 _)); (first | (simp [Pt.cells, Pt.under0, Pt.enters, Pt.search, Pt.num1, Pt.toBase]; done) | rfl)); rintro e w6 ⟨rfl, hp6⟩; obtain ⟨_, _, _, _, _, _, _, _, _, _, _, _, _, _, c6_14, c6_15, c6_16, c6_17, c6_18, _, _⟩ := Is.all hp6.blk; have hf6 := Is.cell0 hp6.blk; (try dsimp only at c6_18)))
        go_quiet (fail)
        go_wp2_with fail
        go_ret3
        exact ⟨(by rw [HF.out]; rfl), (by rw [HF.out]; exact by (apply Put.to; (repeat (with_reducible first | apply Put.after hp6 | apply Put.after hp5 | exact hp1 | exact Put.refl H.out | apply Put.set_ | apply Put.drewN | apply Put.drew | apply Put.alloc | refine Put.far ?_ (by simpa using hb1) hg0 _)); (first | (simp [Pt.cells, Pt.under0, Pt.enters, Pt.search, Pt.num1, Pt.toBase]; done) | rfl)))⟩
      · have hre : S.raised n = S := by unfold Pt.raised; rw [if_pos r1]; rw [if_pos r3]; rw [if_neg r4]
        have hfin : ({ s with now := n } : Pt).next n = ((0, 0), S) := by rw [hne, hre]; unfold Pt.told; rw [if_neg (by rw [r3]; decide)]; rw [if_neg (by rw [r3]; decide)]
        have HF := Lib.hid hfin
        clear hfin hre hqq hne
        have r3_1 : (S.state == 1) = false := by rw [r3]; rfl
        have r3_2 : (S.state == 2) = false := by rw [r3]; rfl
        have r3_3 : (S.state != 1) = true := by rw [r3]; rfl
        have r3_4 : (S.state != 2) = true := by rw [r3]; rfl
        have r3_5 : (S.state == 4) = false := by rw [r3]; rfl
        have r1_t : decide (S.raise ≤ n - S.since) = true := decide_eq_true r1
        have r3_t : (S.state == 3) = true := beq_iff_eq.2 r3
        have r3_u : (S.state != 3) = false := bne_eq_false_iff_eq.2 r3
        clear r3
        have r4_t : decide (S.low < S.most) = false := decide_eq_false r4
        have r4_u : S.most ≤ S.low := by omega
        clear r4
        go_enter Try.func22, Try.ntmps22
        go_wp2_with (go_at_call 37; (with_reducible refine (clock_yes s g n _ H.out h1 h2).mono ?_); rintro e w1 ⟨rfl, hp1⟩; rw [← HS.out] at hp1; obtain ⟨_, _, c1_2, _, _, c1_5, c1_6, c1_7, c1_8, c1_9, _, _, _, _, c1_14, c1_15, c1_16, c1_17, c1_18, c1_19, _⟩ := Is.all hp1.blk; have hf1 := Is.cell0 hp1.blk)
        go_wp2_with fail
        go_quiet (fail)
        go_wp2_with fail
        go_quiet (fail)
        go_wp2_with fail
        go_ret3
        exact ⟨(by rw [HF.out]; rfl), (by rw [HF.out]; exact by (apply Put.to; (repeat (with_reducible first | exact hp1 | exact Put.refl H.out | apply Put.set_ | apply Put.drewN | apply Put.drew | apply Put.alloc | refine Put.far ?_ (by simpa using hb1) hg0 _)); (first | (simp [Pt.cells, Pt.under0, Pt.enters, Pt.search, Pt.num1, Pt.toBase]; done) | rfl)))⟩
    · by_cases r5 : S.state = 4
      · have hre : S.raised n = S.toBase := by unfold Pt.raised; rw [if_pos r1]; rw [if_neg r3]; rw [if_pos r5]
        have hfin : ({ s with now := n } : Pt).next n = ((S.toBase.tried.1, S.toBase.number + 1), { S.toBase with number := S.toBase.number + 1, unum := S.toBase.number + 1, usize := S.toBase.tried.1, uat := n, uheard := S.toBase.tried.2 }) := by rw [hne, hre]; unfold Pt.told; rw [if_pos (show S.toBase.state = 1 from rfl)]
        rw [hre] at hqq
        have hqm : Sm S.toBase.num1 := hqq.1
        have hql : S.toBase.num1.state = 1 ∨ S.toBase.num1.low ≤ S.toBase.num1.high := hqq.2 (.inl rfl)
        have hqm := Lib.hid hqm
        have hql := Lib.hid hql
        have HF := Lib.hid hfin
        clear hfin hre hqq hne
        have r1_t : decide (S.raise ≤ n - S.since) = true := decide_eq_true r1
        have r3_t : (S.state == 3) = false := beq_eq_false_iff_ne.2 r3
        have r3_u : (S.state != 3) = true := bne_iff_ne.2 r3
        clear r3
        have r5_t : (S.state == 4) = true := beq_iff_eq.2 r5
        have r5_u : (S.state != 4) = false := bne_eq_false_iff_eq.2 r5
        clear r5
        go_enter Try.func22, Try.ntmps22
        go_wp2_with (go_at_call 37; (with_reducible refine (clock_yes s g n _ H.out h1 h2).mono ?_); rintro e w1 ⟨rfl, hp1⟩; rw [← HS.out] at hp1; obtain ⟨_, _, c1_2, _, _, c1_5, c1_6, c1_7, c1_8, c1_9, _, _, _, _, c1_14, c1_15, c1_16, c1_17, c1_18, c1_19, _⟩ := Is.all hp1.blk; have hf1 := Is.cell0 hp1.blk)
        go_wp2_with fail
        go_quiet (fail)
        go_wp2_with fail
        go_quiet (fail)
        go_wp2_with (first | (go_at_call 40; (with_reducible refine (tried_calls S.toBase.num1 g _ ?qis hqm.out hql.out).mono ?_); (case qis => apply is_of (w := w); (repeat (with_reducible first | exact hp1 | exact Put.refl H.out | apply Put.set_ | apply Put.drewN | apply Put.drew | apply Put.alloc | refine Put.far ?_ (by simpa using hb1) hg0 _)); (first | (simp [Pt.cells, Pt.under0, Pt.enters, Pt.search, Pt.num1, Pt.toBase]; done) | rfl)); rintro e w6 ⟨rfl, hp6⟩; obtain ⟨_, _, _, _, _, _, _, _, _, _, _, _, _, _, c6_14, c6_15, c6_16, c6_17, c6_18, _, _⟩ := Is.all hp6.blk; have hf6 := Is.cell0 hp6.blk; (try dsimp only at c6_18)))
        go_quiet (fail)
        go_wp2_with fail
        go_ret3
        exact ⟨(by rw [HF.out]; rfl), (by rw [HF.out]; exact by (apply Put.to; (repeat (with_reducible first | apply Put.after hp6 | exact hp1 | exact Put.refl H.out | apply Put.set_ | apply Put.drewN | apply Put.drew | apply Put.alloc | refine Put.far ?_ (by simpa using hb1) hg0 _)); (first | (simp [Pt.cells, Pt.under0, Pt.enters, Pt.search, Pt.num1, Pt.toBase]; done) | rfl)))⟩
      · by_cases r6 : S.state = 1
        · have hre : S.raised n = S := by unfold Pt.raised; rw [if_pos r1]; rw [if_neg r3]; rw [if_neg r5]
          have hfin : ({ s with now := n } : Pt).next n = ((S.tried.1, S.number + 1), { S with number := S.number + 1, unum := S.number + 1, usize := S.tried.1, uat := n, uheard := S.tried.2 }) := by rw [hne, hre]; unfold Pt.told; rw [if_pos r6]
          rw [hre] at hqq
          have hqm : Sm S.num1 := hqq.1
          have hql : S.num1.state = 1 ∨ S.num1.low ≤ S.num1.high := hqq.2 (.inl r6)
          have hqm := Lib.hid hqm
          have hql := Lib.hid hql
          have HF := Lib.hid hfin
          clear hfin hre hqq hne
          have r1_t : decide (S.raise ≤ n - S.since) = true := decide_eq_true r1
          have r3_t : (S.state == 3) = false := beq_eq_false_iff_ne.2 r3
          have r3_u : (S.state != 3) = true := bne_iff_ne.2 r3
          clear r3
          have r5_t : (S.state == 4) = false := beq_eq_false_iff_ne.2 r5
          have r5_u : (S.state != 4) = true := bne_iff_ne.2 r5
          clear r5
          have r6_t : (S.state == 1) = true := beq_iff_eq.2 r6
          have r6_u : (S.state != 1) = false := bne_eq_false_iff_eq.2 r6
          clear r6
          go_enter Try.func22, Try.ntmps22
          go_wp2_with (go_at_call 37; (with_reducible refine (clock_yes s g n _ H.out h1 h2).mono ?_); rintro e w1 ⟨rfl, hp1⟩; rw [← HS.out] at hp1; obtain ⟨_, _, c1_2, _, _, c1_5, c1_6, c1_7, c1_8, c1_9, _, _, _, _, c1_14, c1_15, c1_16, c1_17, c1_18, c1_19, _⟩ := Is.all hp1.blk; have hf1 := Is.cell0 hp1.blk)
          go_wp2_with fail
          go_quiet (fail)
          go_wp2_with fail
          go_quiet (fail)
          go_wp2_with (first | (go_at_call 40; (with_reducible refine (tried_calls S.num1 g _ ?qis hqm.out hql.out).mono ?_); (case qis => apply is_of (w := w); (repeat (with_reducible first | exact hp1 | exact Put.refl H.out | apply Put.set_ | apply Put.drewN | apply Put.drew | apply Put.alloc | refine Put.far ?_ (by simpa using hb1) hg0 _)); (first | (simp [Pt.cells, Pt.under0, Pt.enters, Pt.search, Pt.num1, Pt.toBase]; done) | rfl)); rintro e w6 ⟨rfl, hp6⟩; obtain ⟨_, _, _, _, _, _, _, _, _, _, _, _, _, _, c6_14, c6_15, c6_16, c6_17, c6_18, _, _⟩ := Is.all hp6.blk; have hf6 := Is.cell0 hp6.blk; (try dsimp only at c6_18)))
          go_quiet (fail)
          go_wp2_with fail
          go_ret3
          exact ⟨(by rw [HF.out]; rfl), (by rw [HF.out]; exact by (apply Put.to; (repeat (with_reducible first | apply Put.after hp6 | exact hp1 | exact Put.refl H.out | apply Put.set_ | apply Put.drewN | apply Put.drew | apply Put.alloc | refine Put.far ?_ (by simpa using hb1) hg0 _)); (first | (simp [Pt.cells, Pt.under0, Pt.enters, Pt.search, Pt.num1, Pt.toBase]; done) | rfl)))⟩
        · by_cases r7 : S.state = 2
          · have hre : S.raised n = S := by unfold Pt.raised; rw [if_pos r1]; rw [if_neg r3]; rw [if_neg r5]
            have hfin : ({ s with now := n } : Pt).next n = ((S.tried.1, S.number + 1), { S with number := S.number + 1, unum := S.number + 1, usize := S.tried.1, uat := n, uheard := S.tried.2 }) := by rw [hne, hre]; unfold Pt.told; rw [if_neg r6]; rw [if_pos r7]
            rw [hre] at hqq
            have hqm : Sm S.num1 := hqq.1
            have hql : S.num1.state = 1 ∨ S.num1.low ≤ S.num1.high := hqq.2 (.inr r7)
            have hqm := Lib.hid hqm
            have hql := Lib.hid hql
            have HF := Lib.hid hfin
            clear hfin hre hqq hne
            have r1_t : decide (S.raise ≤ n - S.since) = true := decide_eq_true r1
            have r3_t : (S.state == 3) = false := beq_eq_false_iff_ne.2 r3
            have r3_u : (S.state != 3) = true := bne_iff_ne.2 r3
            clear r3
            have r5_t : (S.state == 4) = false := beq_eq_false_iff_ne.2 r5
            have r5_u : (S.state != 4) = true := bne_iff_ne.2 r5
            clear r5
            have r6_t : (S.state == 1) = false := beq_eq_false_iff_ne.2 r6
            have r6_u : (S.state != 1) = true := bne_iff_ne.2 r6
            clear r6
            have r7_t : (S.state == 2) = true := beq_iff_eq.2 r7
            have r7_u : (S.state != 2) = false := bne_eq_false_iff_eq.2 r7
            clear r7
            go_enter Try.func22, Try.ntmps22
            go_wp2_with (go_at_call 37; (with_reducible refine (clock_yes s g n _ H.out h1 h2).mono ?_); rintro e w1 ⟨rfl, hp1⟩; rw [← HS.out] at hp1; obtain ⟨_, _, c1_2, _, _, c1_5, c1_6, c1_7, c1_8, c1_9, _, _, _, _, c1_14, c1_15, c1_16, c1_17, c1_18, c1_19, _⟩ := Is.all hp1.blk; have hf1 := Is.cell0 hp1.blk)
            go_wp2_with fail
            go_quiet (fail)
            go_wp2_with fail
            go_quiet (fail)
            go_wp2_with (first | (go_at_call 40; (with_reducible refine (tried_calls S.num1 g _ ?qis hqm.out hql.out).mono ?_); (case qis => apply is_of (w := w); (repeat (with_reducible first | exact hp1 | exact Put.refl H.out | apply Put.set_ | apply Put.drewN | apply Put.drew | apply Put.alloc | refine Put.far ?_ (by simpa using hb1) hg0 _)); (first | (simp [Pt.cells, Pt.under0, Pt.enters, Pt.search, Pt.num1, Pt.toBase]; done) | rfl)); rintro e w6 ⟨rfl, hp6⟩; obtain ⟨_, _, _, _, _, _, _, _, _, _, _, _, _, _, c6_14, c6_15, c6_16, c6_17, c6_18, _, _⟩ := Is.all hp6.blk; have hf6 := Is.cell0 hp6.blk; (try dsimp only at c6_18)))
            go_quiet (fail)
            go_wp2_with fail
            go_ret3
            exact ⟨(by rw [HF.out]; rfl), (by rw [HF.out]; exact by (apply Put.to; (repeat (with_reducible first | apply Put.after hp6 | exact hp1 | exact Put.refl H.out | apply Put.set_ | apply Put.drewN | apply Put.drew | apply Put.alloc | refine Put.far ?_ (by simpa using hb1) hg0 _)); (first | (simp [Pt.cells, Pt.under0, Pt.enters, Pt.search, Pt.num1, Pt.toBase]; done) | rfl)))⟩
          · have hre : S.raised n = S := by unfold Pt.raised; rw [if_pos r1]; rw [if_neg r3]; rw [if_neg r5]
            have hfin : ({ s with now := n } : Pt).next n = ((0, 0), S) := by rw [hne, hre]; unfold Pt.told; rw [if_neg r6]; rw [if_neg r7]
            have HF := Lib.hid hfin
            clear hfin hre hqq hne
            have r1_t : decide (S.raise ≤ n - S.since) = true := decide_eq_true r1
            have r3_t : (S.state == 3) = false := beq_eq_false_iff_ne.2 r3
            have r3_u : (S.state != 3) = true := bne_iff_ne.2 r3
            clear r3
            have r5_t : (S.state == 4) = false := beq_eq_false_iff_ne.2 r5
            have r5_u : (S.state != 4) = true := bne_iff_ne.2 r5
            clear r5
            have r6_t : (S.state == 1) = false := beq_eq_false_iff_ne.2 r6
            have r6_u : (S.state != 1) = true := bne_iff_ne.2 r6
            clear r6
            have r7_t : (S.state == 2) = false := beq_eq_false_iff_ne.2 r7
            have r7_u : (S.state != 2) = true := bne_iff_ne.2 r7
            clear r7
            go_enter Try.func22, Try.ntmps22
            go_wp2_with (go_at_call 37; (with_reducible refine (clock_yes s g n _ H.out h1 h2).mono ?_); rintro e w1 ⟨rfl, hp1⟩; rw [← HS.out] at hp1; obtain ⟨_, _, c1_2, _, _, c1_5, c1_6, c1_7, c1_8, c1_9, _, _, _, _, c1_14, c1_15, c1_16, c1_17, c1_18, c1_19, _⟩ := Is.all hp1.blk; have hf1 := Is.cell0 hp1.blk)
            go_wp2_with fail
            go_quiet (fail)
            go_wp2_with fail
            go_quiet (fail)
            go_wp2_with fail
            go_ret3
            exact ⟨(by rw [HF.out]; rfl), (by rw [HF.out]; exact by (apply Put.to; (repeat (with_reducible first | exact hp1 | exact Put.refl H.out | apply Put.set_ | apply Put.drewN | apply Put.drew | apply Put.alloc | refine Put.far ?_ (by simpa using hb1) hg0 _)); (first | (simp [Pt.cells, Pt.under0, Pt.enters, Pt.search, Pt.num1, Pt.toBase]; done) | rfl)))⟩
  · by_cases r6 : S.state = 1
    · have hre : S.raised n = S := by unfold Pt.raised; rw [if_neg r1]
      have hfin : ({ s with now := n } : Pt).next n = ((S.tried.1, S.number + 1), { S with number := S.number + 1, unum := S.number + 1, usize := S.tried.1, uat := n, uheard := S.tried.2 }) := by rw [hne, hre]; unfold Pt.told; rw [if_pos r6]
      rw [hre] at hqq
      have hqm : Sm S.num1 := hqq.1
      have hql : S.num1.state = 1 ∨ S.num1.low ≤ S.num1.high := hqq.2 (.inl r6)
      have hqm := Lib.hid hqm
      have hql := Lib.hid hql
      have HF := Lib.hid hfin
      clear hfin hre hqq hne
      have r1_t : decide (S.raise ≤ n - S.since) = false := decide_eq_false r1
      have r1_u : n - S.since < S.raise := by omega
      clear r1
      have r6_t : (S.state == 1) = true := beq_iff_eq.2 r6
      have r6_u : (S.state != 1) = false := bne_eq_false_iff_eq.2 r6
      clear r6
      go_enter Try.func22, Try.ntmps22
      go_wp2_with (go_at_call 37; (with_reducible refine (clock_yes s g n _ H.out h1 h2).mono ?_); rintro e w1 ⟨rfl, hp1⟩; rw [← HS.out] at hp1; obtain ⟨_, _, c1_2, _, _, c1_5, c1_6, c1_7, c1_8, c1_9, _, _, _, _, c1_14, c1_15, c1_16, c1_17, c1_18, c1_19, _⟩ := Is.all hp1.blk; have hf1 := Is.cell0 hp1.blk)
      go_wp2_with fail
      go_quiet (fail)
      go_wp2_with (first | (go_at_call 40; (with_reducible refine (tried_calls S.num1 g _ ?qis hqm.out hql.out).mono ?_); (case qis => apply is_of (w := w); (repeat (with_reducible first | exact hp1 | exact Put.refl H.out | apply Put.set_ | apply Put.drewN | apply Put.drew | apply Put.alloc | refine Put.far ?_ (by simpa using hb1) hg0 _)); (first | (simp [Pt.cells, Pt.under0, Pt.enters, Pt.search, Pt.num1, Pt.toBase]; done) | rfl)); rintro e w6 ⟨rfl, hp6⟩; obtain ⟨_, _, _, _, _, _, _, _, _, _, _, _, _, _, c6_14, c6_15, c6_16, c6_17, c6_18, _, _⟩ := Is.all hp6.blk; have hf6 := Is.cell0 hp6.blk; (try dsimp only at c6_18)))
      go_quiet (fail)
      go_wp2_with fail
      go_ret3
      exact ⟨(by rw [HF.out]; rfl), (by rw [HF.out]; exact by (apply Put.to; (repeat (with_reducible first | apply Put.after hp6 | exact hp1 | exact Put.refl H.out | apply Put.set_ | apply Put.drewN | apply Put.drew | apply Put.alloc | refine Put.far ?_ (by simpa using hb1) hg0 _)); (first | (simp [Pt.cells, Pt.under0, Pt.enters, Pt.search, Pt.num1, Pt.toBase]; done) | rfl)))⟩
    · by_cases r7 : S.state = 2
      · have hre : S.raised n = S := by unfold Pt.raised; rw [if_neg r1]
        have hfin : ({ s with now := n } : Pt).next n = ((S.tried.1, S.number + 1), { S with number := S.number + 1, unum := S.number + 1, usize := S.tried.1, uat := n, uheard := S.tried.2 }) := by rw [hne, hre]; unfold Pt.told; rw [if_neg r6]; rw [if_pos r7]
        rw [hre] at hqq
        have hqm : Sm S.num1 := hqq.1
        have hql : S.num1.state = 1 ∨ S.num1.low ≤ S.num1.high := hqq.2 (.inr r7)
        have hqm := Lib.hid hqm
        have hql := Lib.hid hql
        have HF := Lib.hid hfin
        clear hfin hre hqq hne
        have r1_t : decide (S.raise ≤ n - S.since) = false := decide_eq_false r1
        have r1_u : n - S.since < S.raise := by omega
        clear r1
        have r6_t : (S.state == 1) = false := beq_eq_false_iff_ne.2 r6
        have r6_u : (S.state != 1) = true := bne_iff_ne.2 r6
        clear r6
        have r7_t : (S.state == 2) = true := beq_iff_eq.2 r7
        have r7_u : (S.state != 2) = false := bne_eq_false_iff_eq.2 r7
        clear r7
        go_enter Try.func22, Try.ntmps22
        go_wp2_with (go_at_call 37; (with_reducible refine (clock_yes s g n _ H.out h1 h2).mono ?_); rintro e w1 ⟨rfl, hp1⟩; rw [← HS.out] at hp1; obtain ⟨_, _, c1_2, _, _, c1_5, c1_6, c1_7, c1_8, c1_9, _, _, _, _, c1_14, c1_15, c1_16, c1_17, c1_18, c1_19, _⟩ := Is.all hp1.blk; have hf1 := Is.cell0 hp1.blk)
        go_wp2_with fail
        go_quiet (fail)
        go_wp2_with (first | (go_at_call 40; (with_reducible refine (tried_calls S.num1 g _ ?qis hqm.out hql.out).mono ?_); (case qis => apply is_of (w := w); (repeat (with_reducible first | exact hp1 | exact Put.refl H.out | apply Put.set_ | apply Put.drewN | apply Put.drew | apply Put.alloc | refine Put.far ?_ (by simpa using hb1) hg0 _)); (first | (simp [Pt.cells, Pt.under0, Pt.enters, Pt.search, Pt.num1, Pt.toBase]; done) | rfl)); rintro e w6 ⟨rfl, hp6⟩; obtain ⟨_, _, _, _, _, _, _, _, _, _, _, _, _, _, c6_14, c6_15, c6_16, c6_17, c6_18, _, _⟩ := Is.all hp6.blk; have hf6 := Is.cell0 hp6.blk; (try dsimp only at c6_18)))
        go_quiet (fail)
        go_wp2_with fail
        go_ret3
        exact ⟨(by rw [HF.out]; rfl), (by rw [HF.out]; exact by (apply Put.to; (repeat (with_reducible first | apply Put.after hp6 | exact hp1 | exact Put.refl H.out | apply Put.set_ | apply Put.drewN | apply Put.drew | apply Put.alloc | refine Put.far ?_ (by simpa using hb1) hg0 _)); (first | (simp [Pt.cells, Pt.under0, Pt.enters, Pt.search, Pt.num1, Pt.toBase]; done) | rfl)))⟩
      · have hre : S.raised n = S := by unfold Pt.raised; rw [if_neg r1]
        have hfin : ({ s with now := n } : Pt).next n = ((0, 0), S) := by rw [hne, hre]; unfold Pt.told; rw [if_neg r6]; rw [if_neg r7]
        have HF := Lib.hid hfin
        clear hfin hre hqq hne
        have r1_t : decide (S.raise ≤ n - S.since) = false := decide_eq_false r1
        have r1_u : n - S.since < S.raise := by omega
        clear r1
        have r6_t : (S.state == 1) = false := beq_eq_false_iff_ne.2 r6
        have r6_u : (S.state != 1) = true := bne_iff_ne.2 r6
        clear r6
        have r7_t : (S.state == 2) = false := beq_eq_false_iff_ne.2 r7
        have r7_u : (S.state != 2) = true := bne_iff_ne.2 r7
        clear r7
        go_enter Try.func22, Try.ntmps22
        go_wp2_with (go_at_call 37; (with_reducible refine (clock_yes s g n _ H.out h1 h2).mono ?_); rintro e w1 ⟨rfl, hp1⟩; rw [← HS.out] at hp1; obtain ⟨_, _, c1_2, _, _, c1_5, c1_6, c1_7, c1_8, c1_9, _, _, _, _, c1_14, c1_15, c1_16, c1_17, c1_18, c1_19, _⟩ := Is.all hp1.blk; have hf1 := Is.cell0 hp1.blk)
        go_wp2_with fail
        go_quiet (fail)
        go_wp2_with fail
        go_ret3
        exact ⟨(by rw [HF.out]; rfl), (by rw [HF.out]; exact by (apply Put.to; (repeat (with_reducible first | exact hp1 | exact Put.refl H.out | apply Put.set_ | apply Put.drewN | apply Put.drew | apply Put.alloc | refine Put.far ?_ (by simpa using hb1) hg0 _)); (first | (simp [Pt.cells, Pt.under0, Pt.enters, Pt.search, Pt.num1, Pt.toBase]; done) | rfl)))⟩
set_option maxRecDepth 100000 in
set_option maxHeartbeats 4000000 in
theorem next_c (s : Pt) (g : Nat)  (n : Int) (w : World) (h1 : ¬ n < s.now) (h2 : ¬ 1099511627776 < n) (h3 : 0 < ({ s with now := n } : Pt).unum) (h4 : n - ({ s with now := n } : Pt).uat < ({ s with now := n } : Pt).wait) (h : Is w g s) (hm : Sm s) :
    Calls Try.prog 22 #[.pointer (some ⟨g, 0, none⟩), .int .i64 n] w fun e w' => e = .returned (.tuple #[.int .i64 (({ s with now := n } : Pt).next n).1.1, .int .i64 (({ s with now := n } : Pt).next n).1.2, .int .i64 0]) ∧ Put w w' g 66 (({ s with now := n } : Pt).next n).2.cells := by
  have H := Lib.hid h; clear h
  obtain ⟨z0, z1⟩ := hm.now
  have hn0 : 0 ≤ n := by omega
  have hn1 : n ≤ 1099511627776 := by omega
  clear z0 z1
  have hsm := hm.at_ h1 h2
  clear hm
  obtain ⟨S, hS⟩ : ∃ S, S = ({ s with now := n } : Pt) := ⟨_, rfl⟩
  rw [← hS] at hsm h3 h4
  have hfin : ({ s with now := n } : Pt).next n = ((0, 0), S) := by unfold Pt.next; rw [← hS, if_pos h3, if_pos h4]
  have HF := Lib.hid hfin
  clear hfin
  have HS := Lib.hid hS
  clear hS
  have hsm := Lib.hid hsm
  obtain ⟨m80, m81⟩ := hsm.out.uat
  obtain ⟨m90, m91⟩ := hsm.out.since
  obtain ⟨m70, m71⟩ := hsm.out.number
  have h3_t : decide (0 < S.unum) = true := decide_eq_true h3
  have h4_t : decide (n - S.uat < S.wait) = true := decide_eq_true h4
  go_enter Try.func22, Try.ntmps22
  go_wp2_with (go_at_call 37; (with_reducible refine (clock_yes s g n _ H.out h1 h2).mono ?_); rintro e w1 ⟨rfl, hp1⟩; rw [← HS.out] at hp1; obtain ⟨_, _, c1_2, _, _, c1_5, c1_6, c1_7, c1_8, c1_9, _, _, _, _, c1_14, c1_15, c1_16, c1_17, c1_18, c1_19, _⟩ := Is.all hp1.blk; have hf1 := Is.cell0 hp1.blk)
  go_wp2_with fail
  go_quiet (fail)
  go_wp2_with fail
  go_ret3
  exact ⟨(by rw [HF.out]; rfl), (by rw [HF.out]; exact by (apply Put.to; (repeat (with_reducible first | exact hp1 | exact Put.refl H.out | apply Put.set_ | apply Put.drewN | apply Put.drew | apply Put.alloc | refine Put.far ?_ (by simpa using hb1) hg0 _)); (first | (simp [Pt.cells, Pt.under0, Pt.enters, Pt.search, Pt.num1, Pt.toBase]; done) | rfl)))⟩
set_option maxRecDepth 100000 in
set_option maxHeartbeats 4000000 in
theorem next_d (s : Pt) (g : Nat)  (n : Int) (w : World) (h1 : ¬ n < s.now) (h2 : ¬ 1099511627776 < n) (hqq : Sm ((({ s with now := n } : Pt).drop).raised n).num1 ∧ (((({ s with now := n } : Pt).drop).raised n).state = 1 ∨ ((({ s with now := n } : Pt).drop).raised n).state = 2 → ((({ s with now := n } : Pt).drop).raised n).state = 1 ∨ ((({ s with now := n } : Pt).drop).raised n).low ≤ ((({ s with now := n } : Pt).drop).raised n).high)) (h3 : 0 < ({ s with now := n } : Pt).unum) (h4 : ¬ n - ({ s with now := n } : Pt).uat < ({ s with now := n } : Pt).wait) (hd : Sm (({ s with now := n } : Pt).drop)) (h : Is w g s) (hm : Sm s) :
    Calls Try.prog 22 #[.pointer (some ⟨g, 0, none⟩), .int .i64 n] w fun e w' => e = .returned (.tuple #[.int .i64 (({ s with now := n } : Pt).next n).1.1, .int .i64 (({ s with now := n } : Pt).next n).1.2, .int .i64 0]) ∧ Put w w' g 66 (({ s with now := n } : Pt).next n).2.cells := by
  have H := Lib.hid h; clear h
  obtain ⟨z0, z1⟩ := hm.now
  have hn0 : 0 ≤ n := by omega
  have hn1 : n ≤ 1099511627776 := by omega
  clear z0 z1
  have hsm' := hm.at_ h1 h2
  clear hm
  obtain ⟨S', hS⟩ : ∃ S', S' = ({ s with now := n } : Pt) := ⟨_, rfl⟩
  obtain ⟨S, hD⟩ : ∃ S, S = S'.drop := ⟨_, rfl⟩
  rw [← hS] at hqq hsm' hd h3 h4
  rw [← hD] at hqq hd
  have hne : ({ s with now := n } : Pt).next n = (S.raised n).told n := by unfold Pt.next; rw [← hS, if_pos h3, if_neg h4, ← hD]
  have HS := Lib.hid hS
  have HD := Lib.hid hD
  clear hS hD
  obtain ⟨y0, y1⟩ := hsm'.uat
  have hsm' := Lib.hid hsm'
  have hsm := Lib.hid hd
  clear hd
  obtain ⟨m80, m81⟩ := hsm.out.uat
  obtain ⟨m90, m91⟩ := hsm.out.since
  obtain ⟨m70, m71⟩ := hsm.out.number
  have h3_t : decide (0 < S'.unum) = true := decide_eq_true h3
  have h4_t : decide (n - S'.uat < S'.wait) = false := decide_eq_false h4
  have h4_u : S'.wait ≤ n - S'.uat := by omega
  clear h4
  by_cases r1 : S.raise ≤ n - S.since
  · by_cases r3 : S.state = 3
    · by_cases r4 : S.low < S.most
      · have hre : S.raised n = S.search := by unfold Pt.raised; rw [if_pos r1]; rw [if_pos r3]; rw [if_pos r4]
        have hfin : ({ s with now := n } : Pt).next n = ((S.search.tried.1, S.search.number + 1), { S.search with number := S.search.number + 1, unum := S.search.number + 1, usize := S.search.tried.1, uat := n, uheard := S.search.tried.2 }) := by rw [hne, hre]; unfold Pt.told; rw [if_neg (show ¬ S.search.state = 1 from (by unfold Pt.search; simp))]; rw [if_pos (show S.search.state = 2 from rfl)]
        rw [hre] at hqq
        have hqm : Sm S.search.num1 := hqq.1
        have hql : S.search.num1.state = 1 ∨ S.search.num1.low ≤ S.search.num1.high := hqq.2 (.inr rfl)
        have hqm := Lib.hid hqm
        have hql := Lib.hid hql
        have HF := Lib.hid hfin
        clear hfin hre hqq hne
        have r1_t : decide (S.raise ≤ n - S.since) = true := decide_eq_true r1
        have r3_t : (S.state == 3) = true := beq_iff_eq.2 r3
        have r3_u : (S.state != 3) = false := bne_eq_false_iff_eq.2 r3
        clear r3
        have r4_t : decide (S.low < S.most) = true := decide_eq_true r4
        go_enter Try.func22, Try.ntmps22
        go_wp2_with (go_at_call 37; (with_reducible refine (clock_yes s g n _ H.out h1 h2).mono ?_); rintro e w1 ⟨rfl, hp1⟩; rw [← HS.out] at hp1; obtain ⟨_, _, _, _, _, c1_5, _, _, _, _, _, _, _, _, c1_14, _, c1_16, _, _, _, _⟩ := Is.all hp1.blk; have hf1 := Is.cell0 hp1.blk)
        go_wp2_with fail
        go_quiet (fail)
        go_wp2_with (first | (go_at_call 38; (with_reducible refine (drop_calls S' g _ ?qis hsm'.out).mono ?_); (case qis => exact hp1.blk); rintro e w3 ⟨rfl, hp3⟩; rw [← HD.out] at hp3; obtain ⟨_, _, c3_2, _, _, c3_5, c3_6, c3_7, c3_8, c3_9, _, _, _, _, c3_14, c3_15, c3_16, c3_17, c3_18, c3_19, _⟩ := Is.all hp3.blk; have hf3 := Is.cell0 hp3.blk))
        go_wp2_with fail
        go_quiet (fail)
        go_wp2_with fail
        go_quiet (fail)
        go_wp2_with (first | (go_at_call 39; (with_reducible refine (search_calls S g _ ?qis hsm.out).mono ?_); (case qis => apply is_of (w := w); (repeat (with_reducible first | apply Put.after hp3 | exact hp1 | exact Put.refl H.out | apply Put.set_ | apply Put.drewN | apply Put.drew | apply Put.alloc | refine Put.far ?_ (by simpa using hb1) hg0 _)); (first | (simp [Pt.cells, Pt.under0, Pt.enters, Pt.search, Pt.num1, Pt.toBase]; done) | rfl)); rintro e w5 ⟨rfl, hp5⟩; obtain ⟨_, _, _, _, _, _, _, c5_7, _, _, _, _, _, _, _, _, _, _, c5_18, _, _⟩ := Is.all hp5.blk; have hf5 := Is.cell0 hp5.blk; (try dsimp only [Pt.search] at c5_7 c5_18)) | (go_at_call 40; (with_reducible refine (tried_calls S.search.num1 g _ ?qis hqm.out hql.out).mono ?_); (case qis => apply is_of (w := w); (repeat (with_reducible first | apply Put.after hp5 | apply Put.after hp3 | exact hp1 | exact Put.refl H.out | apply Put.set_ | apply Put.drewN | apply Put.drew | apply Put.alloc | refine Put.far ?_ (by simpa using hb1) hg0 _)); (first | (simp [Pt.cells, Pt.under0, Pt.enters, Pt.search, Pt.num1, Pt.toBase]; done) | rfl)); rintro e w6 ⟨rfl, hp6⟩; obtain ⟨_, _, _, _, _, _, _, _, _, _, _, _, _, _, c6_14, c6_15, c6_16, c6_17, c6_18, _, _⟩ := Is.all hp6.blk; have hf6 := Is.cell0 hp6.blk; (try dsimp only at c6_18)))
        go_quiet (fail)
        go_wp2_with fail
        go_ret3
        exact ⟨(by rw [HF.out]; rfl), (by rw [HF.out]; exact by (apply Put.to; (repeat (with_reducible first | apply Put.after hp6 | apply Put.after hp5 | apply Put.after hp3 | exact hp1 | exact Put.refl H.out | apply Put.set_ | apply Put.drewN | apply Put.drew | apply Put.alloc | refine Put.far ?_ (by simpa using hb1) hg0 _)); (first | (simp [Pt.cells, Pt.under0, Pt.enters, Pt.search, Pt.num1, Pt.toBase]; done) | rfl)))⟩
      · have hre : S.raised n = S := by unfold Pt.raised; rw [if_pos r1]; rw [if_pos r3]; rw [if_neg r4]
        have hfin : ({ s with now := n } : Pt).next n = ((0, 0), S) := by rw [hne, hre]; unfold Pt.told; rw [if_neg (by rw [r3]; decide)]; rw [if_neg (by rw [r3]; decide)]
        have HF := Lib.hid hfin
        clear hfin hre hqq hne
        have r3_1 : (S.state == 1) = false := by rw [r3]; rfl
        have r3_2 : (S.state == 2) = false := by rw [r3]; rfl
        have r3_3 : (S.state != 1) = true := by rw [r3]; rfl
        have r3_4 : (S.state != 2) = true := by rw [r3]; rfl
        have r3_5 : (S.state == 4) = false := by rw [r3]; rfl
        have r1_t : decide (S.raise ≤ n - S.since) = true := decide_eq_true r1
        have r3_t : (S.state == 3) = true := beq_iff_eq.2 r3
        have r3_u : (S.state != 3) = false := bne_eq_false_iff_eq.2 r3
        clear r3
        have r4_t : decide (S.low < S.most) = false := decide_eq_false r4
        have r4_u : S.most ≤ S.low := by omega
        clear r4
        go_enter Try.func22, Try.ntmps22
        go_wp2_with (go_at_call 37; (with_reducible refine (clock_yes s g n _ H.out h1 h2).mono ?_); rintro e w1 ⟨rfl, hp1⟩; rw [← HS.out] at hp1; obtain ⟨_, _, _, _, _, c1_5, _, _, _, _, _, _, _, _, c1_14, _, c1_16, _, _, _, _⟩ := Is.all hp1.blk; have hf1 := Is.cell0 hp1.blk)
        go_wp2_with fail
        go_quiet (fail)
        go_wp2_with (first | (go_at_call 38; (with_reducible refine (drop_calls S' g _ ?qis hsm'.out).mono ?_); (case qis => exact hp1.blk); rintro e w3 ⟨rfl, hp3⟩; rw [← HD.out] at hp3; obtain ⟨_, _, c3_2, _, _, c3_5, c3_6, c3_7, c3_8, c3_9, _, _, _, _, c3_14, c3_15, c3_16, c3_17, c3_18, c3_19, _⟩ := Is.all hp3.blk; have hf3 := Is.cell0 hp3.blk))
        go_wp2_with fail
        go_quiet (fail)
        go_wp2_with fail
        go_quiet (fail)
        go_wp2_with fail
        go_ret3
        exact ⟨(by rw [HF.out]; rfl), (by rw [HF.out]; exact by (apply Put.to; (repeat (with_reducible first | apply Put.after hp3 | exact hp1 | exact Put.refl H.out | apply Put.set_ | apply Put.drewN | apply Put.drew | apply Put.alloc | refine Put.far ?_ (by simpa using hb1) hg0 _)); (first | (simp [Pt.cells, Pt.under0, Pt.enters, Pt.search, Pt.num1, Pt.toBase]; done) | rfl)))⟩
    · by_cases r5 : S.state = 4
      · have hre : S.raised n = S.toBase := by unfold Pt.raised; rw [if_pos r1]; rw [if_neg r3]; rw [if_pos r5]
        have hfin : ({ s with now := n } : Pt).next n = ((S.toBase.tried.1, S.toBase.number + 1), { S.toBase with number := S.toBase.number + 1, unum := S.toBase.number + 1, usize := S.toBase.tried.1, uat := n, uheard := S.toBase.tried.2 }) := by rw [hne, hre]; unfold Pt.told; rw [if_pos (show S.toBase.state = 1 from rfl)]
        rw [hre] at hqq
        have hqm : Sm S.toBase.num1 := hqq.1
        have hql : S.toBase.num1.state = 1 ∨ S.toBase.num1.low ≤ S.toBase.num1.high := hqq.2 (.inl rfl)
        have hqm := Lib.hid hqm
        have hql := Lib.hid hql
        have HF := Lib.hid hfin
        clear hfin hre hqq hne
        have r1_t : decide (S.raise ≤ n - S.since) = true := decide_eq_true r1
        have r3_t : (S.state == 3) = false := beq_eq_false_iff_ne.2 r3
        have r3_u : (S.state != 3) = true := bne_iff_ne.2 r3
        clear r3
        have r5_t : (S.state == 4) = true := beq_iff_eq.2 r5
        have r5_u : (S.state != 4) = false := bne_eq_false_iff_eq.2 r5
        clear r5
        go_enter Try.func22, Try.ntmps22
        go_wp2_with (go_at_call 37; (with_reducible refine (clock_yes s g n _ H.out h1 h2).mono ?_); rintro e w1 ⟨rfl, hp1⟩; rw [← HS.out] at hp1; obtain ⟨_, _, _, _, _, c1_5, _, _, _, _, _, _, _, _, c1_14, _, c1_16, _, _, _, _⟩ := Is.all hp1.blk; have hf1 := Is.cell0 hp1.blk)
        go_wp2_with fail
        go_quiet (fail)
        go_wp2_with (first | (go_at_call 38; (with_reducible refine (drop_calls S' g _ ?qis hsm'.out).mono ?_); (case qis => exact hp1.blk); rintro e w3 ⟨rfl, hp3⟩; rw [← HD.out] at hp3; obtain ⟨_, _, c3_2, _, _, c3_5, c3_6, c3_7, c3_8, c3_9, _, _, _, _, c3_14, c3_15, c3_16, c3_17, c3_18, c3_19, _⟩ := Is.all hp3.blk; have hf3 := Is.cell0 hp3.blk))
        go_wp2_with fail
        go_quiet (fail)
        go_wp2_with fail
        go_quiet (fail)
        go_wp2_with (first | (go_at_call 40; (with_reducible refine (tried_calls S.toBase.num1 g _ ?qis hqm.out hql.out).mono ?_); (case qis => apply is_of (w := w); (repeat (with_reducible first | apply Put.after hp3 | exact hp1 | exact Put.refl H.out | apply Put.set_ | apply Put.drewN | apply Put.drew | apply Put.alloc | refine Put.far ?_ (by simpa using hb1) hg0 _)); (first | (simp [Pt.cells, Pt.under0, Pt.enters, Pt.search, Pt.num1, Pt.toBase]; done) | rfl)); rintro e w6 ⟨rfl, hp6⟩; obtain ⟨_, _, _, _, _, _, _, _, _, _, _, _, _, _, c6_14, c6_15, c6_16, c6_17, c6_18, _, _⟩ := Is.all hp6.blk; have hf6 := Is.cell0 hp6.blk; (try dsimp only at c6_18)))
        go_quiet (fail)
        go_wp2_with fail
        go_ret3
        exact ⟨(by rw [HF.out]; rfl), (by rw [HF.out]; exact by (apply Put.to; (repeat (with_reducible first | apply Put.after hp6 | apply Put.after hp3 | exact hp1 | exact Put.refl H.out | apply Put.set_ | apply Put.drewN | apply Put.drew | apply Put.alloc | refine Put.far ?_ (by simpa using hb1) hg0 _)); (first | (simp [Pt.cells, Pt.under0, Pt.enters, Pt.search, Pt.num1, Pt.toBase]; done) | rfl)))⟩
      · by_cases r6 : S.state = 1
        · have hre : S.raised n = S := by unfold Pt.raised; rw [if_pos r1]; rw [if_neg r3]; rw [if_neg r5]
          have hfin : ({ s with now := n } : Pt).next n = ((S.tried.1, S.number + 1), { S with number := S.number + 1, unum := S.number + 1, usize := S.tried.1, uat := n, uheard := S.tried.2 }) := by rw [hne, hre]; unfold Pt.told; rw [if_pos r6]
          rw [hre] at hqq
          have hqm : Sm S.num1 := hqq.1
          have hql : S.num1.state = 1 ∨ S.num1.low ≤ S.num1.high := hqq.2 (.inl r6)
          have hqm := Lib.hid hqm
          have hql := Lib.hid hql
          have HF := Lib.hid hfin
          clear hfin hre hqq hne
          have r1_t : decide (S.raise ≤ n - S.since) = true := decide_eq_true r1
          have r3_t : (S.state == 3) = false := beq_eq_false_iff_ne.2 r3
          have r3_u : (S.state != 3) = true := bne_iff_ne.2 r3
          clear r3
          have r5_t : (S.state == 4) = false := beq_eq_false_iff_ne.2 r5
          have r5_u : (S.state != 4) = true := bne_iff_ne.2 r5
          clear r5
          have r6_t : (S.state == 1) = true := beq_iff_eq.2 r6
          have r6_u : (S.state != 1) = false := bne_eq_false_iff_eq.2 r6
          clear r6
          go_enter Try.func22, Try.ntmps22
          go_wp2_with (go_at_call 37; (with_reducible refine (clock_yes s g n _ H.out h1 h2).mono ?_); rintro e w1 ⟨rfl, hp1⟩; rw [← HS.out] at hp1; obtain ⟨_, _, _, _, _, c1_5, _, _, _, _, _, _, _, _, c1_14, _, c1_16, _, _, _, _⟩ := Is.all hp1.blk; have hf1 := Is.cell0 hp1.blk)
          go_wp2_with fail
          go_quiet (fail)
          go_wp2_with (first | (go_at_call 38; (with_reducible refine (drop_calls S' g _ ?qis hsm'.out).mono ?_); (case qis => exact hp1.blk); rintro e w3 ⟨rfl, hp3⟩; rw [← HD.out] at hp3; obtain ⟨_, _, c3_2, _, _, c3_5, c3_6, c3_7, c3_8, c3_9, _, _, _, _, c3_14, c3_15, c3_16, c3_17, c3_18, c3_19, _⟩ := Is.all hp3.blk; have hf3 := Is.cell0 hp3.blk))
          go_wp2_with fail
          go_quiet (fail)
          go_wp2_with fail
          go_quiet (fail)
          go_wp2_with (first | (go_at_call 40; (with_reducible refine (tried_calls S.num1 g _ ?qis hqm.out hql.out).mono ?_); (case qis => apply is_of (w := w); (repeat (with_reducible first | apply Put.after hp3 | exact hp1 | exact Put.refl H.out | apply Put.set_ | apply Put.drewN | apply Put.drew | apply Put.alloc | refine Put.far ?_ (by simpa using hb1) hg0 _)); (first | (simp [Pt.cells, Pt.under0, Pt.enters, Pt.search, Pt.num1, Pt.toBase]; done) | rfl)); rintro e w6 ⟨rfl, hp6⟩; obtain ⟨_, _, _, _, _, _, _, _, _, _, _, _, _, _, c6_14, c6_15, c6_16, c6_17, c6_18, _, _⟩ := Is.all hp6.blk; have hf6 := Is.cell0 hp6.blk; (try dsimp only at c6_18)))
          go_quiet (fail)
          go_wp2_with fail
          go_ret3
          exact ⟨(by rw [HF.out]; rfl), (by rw [HF.out]; exact by (apply Put.to; (repeat (with_reducible first | apply Put.after hp6 | apply Put.after hp3 | exact hp1 | exact Put.refl H.out | apply Put.set_ | apply Put.drewN | apply Put.drew | apply Put.alloc | refine Put.far ?_ (by simpa using hb1) hg0 _)); (first | (simp [Pt.cells, Pt.under0, Pt.enters, Pt.search, Pt.num1, Pt.toBase]; done) | rfl)))⟩
        · by_cases r7 : S.state = 2
          · have hre : S.raised n = S := by unfold Pt.raised; rw [if_pos r1]; rw [if_neg r3]; rw [if_neg r5]
            have hfin : ({ s with now := n } : Pt).next n = ((S.tried.1, S.number + 1), { S with number := S.number + 1, unum := S.number + 1, usize := S.tried.1, uat := n, uheard := S.tried.2 }) := by rw [hne, hre]; unfold Pt.told; rw [if_neg r6]; rw [if_pos r7]
            rw [hre] at hqq
            have hqm : Sm S.num1 := hqq.1
            have hql : S.num1.state = 1 ∨ S.num1.low ≤ S.num1.high := hqq.2 (.inr r7)
            have hqm := Lib.hid hqm
            have hql := Lib.hid hql
            have HF := Lib.hid hfin
            clear hfin hre hqq hne
            have r1_t : decide (S.raise ≤ n - S.since) = true := decide_eq_true r1
            have r3_t : (S.state == 3) = false := beq_eq_false_iff_ne.2 r3
            have r3_u : (S.state != 3) = true := bne_iff_ne.2 r3
            clear r3
            have r5_t : (S.state == 4) = false := beq_eq_false_iff_ne.2 r5
            have r5_u : (S.state != 4) = true := bne_iff_ne.2 r5
            clear r5
            have r6_t : (S.state == 1) = false := beq_eq_false_iff_ne.2 r6
            have r6_u : (S.state != 1) = true := bne_iff_ne.2 r6
            clear r6
            have r7_t : (S.state == 2) = true := beq_iff_eq.2 r7
            have r7_u : (S.state != 2) = false := bne_eq_false_iff_eq.2 r7
            clear r7
            go_enter Try.func22, Try.ntmps22
            go_wp2_with (go_at_call 37; (with_reducible refine (clock_yes s g n _ H.out h1 h2).mono ?_); rintro e w1 ⟨rfl, hp1⟩; rw [← HS.out] at hp1; obtain ⟨_, _, _, _, _, c1_5, _, _, _, _, _, _, _, _, c1_14, _, c1_16, _, _, _, _⟩ := Is.all hp1.blk; have hf1 := Is.cell0 hp1.blk)
            go_wp2_with fail
            go_quiet (fail)
            go_wp2_with (first | (go_at_call 38; (with_reducible refine (drop_calls S' g _ ?qis hsm'.out).mono ?_); (case qis => exact hp1.blk); rintro e w3 ⟨rfl, hp3⟩; rw [← HD.out] at hp3; obtain ⟨_, _, c3_2, _, _, c3_5, c3_6, c3_7, c3_8, c3_9, _, _, _, _, c3_14, c3_15, c3_16, c3_17, c3_18, c3_19, _⟩ := Is.all hp3.blk; have hf3 := Is.cell0 hp3.blk))
            go_wp2_with fail
            go_quiet (fail)
            go_wp2_with fail
            go_quiet (fail)
            go_wp2_with (first | (go_at_call 40; (with_reducible refine (tried_calls S.num1 g _ ?qis hqm.out hql.out).mono ?_); (case qis => apply is_of (w := w); (repeat (with_reducible first | apply Put.after hp3 | exact hp1 | exact Put.refl H.out | apply Put.set_ | apply Put.drewN | apply Put.drew | apply Put.alloc | refine Put.far ?_ (by simpa using hb1) hg0 _)); (first | (simp [Pt.cells, Pt.under0, Pt.enters, Pt.search, Pt.num1, Pt.toBase]; done) | rfl)); rintro e w6 ⟨rfl, hp6⟩; obtain ⟨_, _, _, _, _, _, _, _, _, _, _, _, _, _, c6_14, c6_15, c6_16, c6_17, c6_18, _, _⟩ := Is.all hp6.blk; have hf6 := Is.cell0 hp6.blk; (try dsimp only at c6_18)))
            go_quiet (fail)
            go_wp2_with fail
            go_ret3
            exact ⟨(by rw [HF.out]; rfl), (by rw [HF.out]; exact by (apply Put.to; (repeat (with_reducible first | apply Put.after hp6 | apply Put.after hp3 | exact hp1 | exact Put.refl H.out | apply Put.set_ | apply Put.drewN | apply Put.drew | apply Put.alloc | refine Put.far ?_ (by simpa using hb1) hg0 _)); (first | (simp [Pt.cells, Pt.under0, Pt.enters, Pt.search, Pt.num1, Pt.toBase]; done) | rfl)))⟩
          · have hre : S.raised n = S := by unfold Pt.raised; rw [if_pos r1]; rw [if_neg r3]; rw [if_neg r5]
            have hfin : ({ s with now := n } : Pt).next n = ((0, 0), S) := by rw [hne, hre]; unfold Pt.told; rw [if_neg r6]; rw [if_neg r7]
            have HF := Lib.hid hfin
            clear hfin hre hqq hne
            have r1_t : decide (S.raise ≤ n - S.since) = true := decide_eq_true r1
            have r3_t : (S.state == 3) = false := beq_eq_false_iff_ne.2 r3
            have r3_u : (S.state != 3) = true := bne_iff_ne.2 r3
            clear r3
            have r5_t : (S.state == 4) = false := beq_eq_false_iff_ne.2 r5
            have r5_u : (S.state != 4) = true := bne_iff_ne.2 r5
            clear r5
            have r6_t : (S.state == 1) = false := beq_eq_false_iff_ne.2 r6
            have r6_u : (S.state != 1) = true := bne_iff_ne.2 r6
            clear r6
            have r7_t : (S.state == 2) = false := beq_eq_false_iff_ne.2 r7
            have r7_u : (S.state != 2) = true := bne_iff_ne.2 r7
            clear r7
            go_enter Try.func22, Try.ntmps22
            go_wp2_with (go_at_call 37; (with_reducible refine (clock_yes s g n _ H.out h1 h2).mono ?_); rintro e w1 ⟨rfl, hp1⟩; rw [← HS.out] at hp1; obtain ⟨_, _, _, _, _, c1_5, _, _, _, _, _, _, _, _, c1_14, _, c1_16, _, _, _, _⟩ := Is.all hp1.blk; have hf1 := Is.cell0 hp1.blk)
            go_wp2_with fail
            go_quiet (fail)
            go_wp2_with (first | (go_at_call 38; (with_reducible refine (drop_calls S' g _ ?qis hsm'.out).mono ?_); (case qis => exact hp1.blk); rintro e w3 ⟨rfl, hp3⟩; rw [← HD.out] at hp3; obtain ⟨_, _, c3_2, _, _, c3_5, c3_6, c3_7, c3_8, c3_9, _, _, _, _, c3_14, c3_15, c3_16, c3_17, c3_18, c3_19, _⟩ := Is.all hp3.blk; have hf3 := Is.cell0 hp3.blk))
            go_wp2_with fail
            go_quiet (fail)
            go_wp2_with fail
            go_quiet (fail)
            go_wp2_with fail
            go_ret3
            exact ⟨(by rw [HF.out]; rfl), (by rw [HF.out]; exact by (apply Put.to; (repeat (with_reducible first | apply Put.after hp3 | exact hp1 | exact Put.refl H.out | apply Put.set_ | apply Put.drewN | apply Put.drew | apply Put.alloc | refine Put.far ?_ (by simpa using hb1) hg0 _)); (first | (simp [Pt.cells, Pt.under0, Pt.enters, Pt.search, Pt.num1, Pt.toBase]; done) | rfl)))⟩
  · by_cases r6 : S.state = 1
    · have hre : S.raised n = S := by unfold Pt.raised; rw [if_neg r1]
      have hfin : ({ s with now := n } : Pt).next n = ((S.tried.1, S.number + 1), { S with number := S.number + 1, unum := S.number + 1, usize := S.tried.1, uat := n, uheard := S.tried.2 }) := by rw [hne, hre]; unfold Pt.told; rw [if_pos r6]
      rw [hre] at hqq
      have hqm : Sm S.num1 := hqq.1
      have hql : S.num1.state = 1 ∨ S.num1.low ≤ S.num1.high := hqq.2 (.inl r6)
      have hqm := Lib.hid hqm
      have hql := Lib.hid hql
      have HF := Lib.hid hfin
      clear hfin hre hqq hne
      have r1_t : decide (S.raise ≤ n - S.since) = false := decide_eq_false r1
      have r1_u : n - S.since < S.raise := by omega
      clear r1
      have r6_t : (S.state == 1) = true := beq_iff_eq.2 r6
      have r6_u : (S.state != 1) = false := bne_eq_false_iff_eq.2 r6
      clear r6
      go_enter Try.func22, Try.ntmps22
      go_wp2_with (go_at_call 37; (with_reducible refine (clock_yes s g n _ H.out h1 h2).mono ?_); rintro e w1 ⟨rfl, hp1⟩; rw [← HS.out] at hp1; obtain ⟨_, _, _, _, _, c1_5, _, _, _, _, _, _, _, _, c1_14, _, c1_16, _, _, _, _⟩ := Is.all hp1.blk; have hf1 := Is.cell0 hp1.blk)
      go_wp2_with fail
      go_quiet (fail)
      go_wp2_with (first | (go_at_call 38; (with_reducible refine (drop_calls S' g _ ?qis hsm'.out).mono ?_); (case qis => exact hp1.blk); rintro e w3 ⟨rfl, hp3⟩; rw [← HD.out] at hp3; obtain ⟨_, _, c3_2, _, _, c3_5, c3_6, c3_7, c3_8, c3_9, _, _, _, _, c3_14, c3_15, c3_16, c3_17, c3_18, c3_19, _⟩ := Is.all hp3.blk; have hf3 := Is.cell0 hp3.blk))
      go_wp2_with fail
      go_quiet (fail)
      go_wp2_with (first | (go_at_call 40; (with_reducible refine (tried_calls S.num1 g _ ?qis hqm.out hql.out).mono ?_); (case qis => apply is_of (w := w); (repeat (with_reducible first | apply Put.after hp3 | exact hp1 | exact Put.refl H.out | apply Put.set_ | apply Put.drewN | apply Put.drew | apply Put.alloc | refine Put.far ?_ (by simpa using hb1) hg0 _)); (first | (simp [Pt.cells, Pt.under0, Pt.enters, Pt.search, Pt.num1, Pt.toBase]; done) | rfl)); rintro e w6 ⟨rfl, hp6⟩; obtain ⟨_, _, _, _, _, _, _, _, _, _, _, _, _, _, c6_14, c6_15, c6_16, c6_17, c6_18, _, _⟩ := Is.all hp6.blk; have hf6 := Is.cell0 hp6.blk; (try dsimp only at c6_18)))
      go_quiet (fail)
      go_wp2_with fail
      go_ret3
      exact ⟨(by rw [HF.out]; rfl), (by rw [HF.out]; exact by (apply Put.to; (repeat (with_reducible first | apply Put.after hp6 | apply Put.after hp3 | exact hp1 | exact Put.refl H.out | apply Put.set_ | apply Put.drewN | apply Put.drew | apply Put.alloc | refine Put.far ?_ (by simpa using hb1) hg0 _)); (first | (simp [Pt.cells, Pt.under0, Pt.enters, Pt.search, Pt.num1, Pt.toBase]; done) | rfl)))⟩
    · by_cases r7 : S.state = 2
      · have hre : S.raised n = S := by unfold Pt.raised; rw [if_neg r1]
        have hfin : ({ s with now := n } : Pt).next n = ((S.tried.1, S.number + 1), { S with number := S.number + 1, unum := S.number + 1, usize := S.tried.1, uat := n, uheard := S.tried.2 }) := by rw [hne, hre]; unfold Pt.told; rw [if_neg r6]; rw [if_pos r7]
        rw [hre] at hqq
        have hqm : Sm S.num1 := hqq.1
        have hql : S.num1.state = 1 ∨ S.num1.low ≤ S.num1.high := hqq.2 (.inr r7)
        have hqm := Lib.hid hqm
        have hql := Lib.hid hql
        have HF := Lib.hid hfin
        clear hfin hre hqq hne
        have r1_t : decide (S.raise ≤ n - S.since) = false := decide_eq_false r1
        have r1_u : n - S.since < S.raise := by omega
        clear r1
        have r6_t : (S.state == 1) = false := beq_eq_false_iff_ne.2 r6
        have r6_u : (S.state != 1) = true := bne_iff_ne.2 r6
        clear r6
        have r7_t : (S.state == 2) = true := beq_iff_eq.2 r7
        have r7_u : (S.state != 2) = false := bne_eq_false_iff_eq.2 r7
        clear r7
        go_enter Try.func22, Try.ntmps22
        go_wp2_with (go_at_call 37; (with_reducible refine (clock_yes s g n _ H.out h1 h2).mono ?_); rintro e w1 ⟨rfl, hp1⟩; rw [← HS.out] at hp1; obtain ⟨_, _, _, _, _, c1_5, _, _, _, _, _, _, _, _, c1_14, _, c1_16, _, _, _, _⟩ := Is.all hp1.blk; have hf1 := Is.cell0 hp1.blk)
        go_wp2_with fail
        go_quiet (fail)
        go_wp2_with (first | (go_at_call 38; (with_reducible refine (drop_calls S' g _ ?qis hsm'.out).mono ?_); (case qis => exact hp1.blk); rintro e w3 ⟨rfl, hp3⟩; rw [← HD.out] at hp3; obtain ⟨_, _, c3_2, _, _, c3_5, c3_6, c3_7, c3_8, c3_9, _, _, _, _, c3_14, c3_15, c3_16, c3_17, c3_18, c3_19, _⟩ := Is.all hp3.blk; have hf3 := Is.cell0 hp3.blk))
        go_wp2_with fail
        go_quiet (fail)
        go_wp2_with (first | (go_at_call 40; (with_reducible refine (tried_calls S.num1 g _ ?qis hqm.out hql.out).mono ?_); (case qis => apply is_of (w := w); (repeat (with_reducible first | apply Put.after hp3 | exact hp1 | exact Put.refl H.out | apply Put.set_ | apply Put.drewN | apply Put.drew | apply Put.alloc | refine Put.far ?_ (by simpa using hb1) hg0 _)); (first | (simp [Pt.cells, Pt.under0, Pt.enters, Pt.search, Pt.num1, Pt.toBase]; done) | rfl)); rintro e w6 ⟨rfl, hp6⟩; obtain ⟨_, _, _, _, _, _, _, _, _, _, _, _, _, _, c6_14, c6_15, c6_16, c6_17, c6_18, _, _⟩ := Is.all hp6.blk; have hf6 := Is.cell0 hp6.blk; (try dsimp only at c6_18)))
        go_quiet (fail)
        go_wp2_with fail
        go_ret3
        exact ⟨(by rw [HF.out]; rfl), (by rw [HF.out]; exact by (apply Put.to; (repeat (with_reducible first | apply Put.after hp6 | apply Put.after hp3 | exact hp1 | exact Put.refl H.out | apply Put.set_ | apply Put.drewN | apply Put.drew | apply Put.alloc | refine Put.far ?_ (by simpa using hb1) hg0 _)); (first | (simp [Pt.cells, Pt.under0, Pt.enters, Pt.search, Pt.num1, Pt.toBase]; done) | rfl)))⟩
      · have hre : S.raised n = S := by unfold Pt.raised; rw [if_neg r1]
        have hfin : ({ s with now := n } : Pt).next n = ((0, 0), S) := by rw [hne, hre]; unfold Pt.told; rw [if_neg r6]; rw [if_neg r7]
        have HF := Lib.hid hfin
        clear hfin hre hqq hne
        have r1_t : decide (S.raise ≤ n - S.since) = false := decide_eq_false r1
        have r1_u : n - S.since < S.raise := by omega
        clear r1
        have r6_t : (S.state == 1) = false := beq_eq_false_iff_ne.2 r6
        have r6_u : (S.state != 1) = true := bne_iff_ne.2 r6
        clear r6
        have r7_t : (S.state == 2) = false := beq_eq_false_iff_ne.2 r7
        have r7_u : (S.state != 2) = true := bne_iff_ne.2 r7
        clear r7
        go_enter Try.func22, Try.ntmps22
        go_wp2_with (go_at_call 37; (with_reducible refine (clock_yes s g n _ H.out h1 h2).mono ?_); rintro e w1 ⟨rfl, hp1⟩; rw [← HS.out] at hp1; obtain ⟨_, _, _, _, _, c1_5, _, _, _, _, _, _, _, _, c1_14, _, c1_16, _, _, _, _⟩ := Is.all hp1.blk; have hf1 := Is.cell0 hp1.blk)
        go_wp2_with fail
        go_quiet (fail)
        go_wp2_with (first | (go_at_call 38; (with_reducible refine (drop_calls S' g _ ?qis hsm'.out).mono ?_); (case qis => exact hp1.blk); rintro e w3 ⟨rfl, hp3⟩; rw [← HD.out] at hp3; obtain ⟨_, _, c3_2, _, _, c3_5, c3_6, c3_7, c3_8, c3_9, _, _, _, _, c3_14, c3_15, c3_16, c3_17, c3_18, c3_19, _⟩ := Is.all hp3.blk; have hf3 := Is.cell0 hp3.blk))
        go_wp2_with fail
        go_quiet (fail)
        go_wp2_with fail
        go_ret3
        exact ⟨(by rw [HF.out]; rfl), (by rw [HF.out]; exact by (apply Put.to; (repeat (with_reducible first | apply Put.after hp3 | exact hp1 | exact Put.refl H.out | apply Put.set_ | apply Put.drewN | apply Put.drew | apply Put.alloc | refine Put.far ?_ (by simpa using hb1) hg0 _)); (first | (simp [Pt.cells, Pt.under0, Pt.enters, Pt.search, Pt.num1, Pt.toBase]; done) | rfl)))⟩
end Go.Proofs.Ytmanojnhjhpokaa.PB
