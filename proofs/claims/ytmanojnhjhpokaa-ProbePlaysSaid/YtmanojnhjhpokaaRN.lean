/- Contracts of the reference path's Next, Acked, TooBig, Got and Lost: each turns the record as the Lean function of the same name does. Conditions: the path lies in one block that is known whole, its numbers are small. -/
import Derived.Test.YtmanojnhjhpokaaRC
import Derived.Deep.LoopGhost
import Derived.Deep.DeepCutAuto
import Derived.Deep.CutBlock
import Derived.StillTailTactics
import Derived.Deep.RegionHeld3
namespace Go.Proofs.Ytmanojnhjhpokaa.PB
set_option linter.unusedVariables false
set_option linter.unusedSimpArgs false
open Go.RowKit
theorem rnamed {P : Program} {c : Code} {Q : Exit → Act → World → Prop} {a : Act} {w W : World} {g : Nat} {s : Rt} {cs : Array Value} (hp : Put w W g 70 cs) (e : cs = s.cells) (k : ∀ W', Put w W' g 70 s.cells → Code.wp P c Q a W') : Code.wp P c Q a W := k W (hp.to e)
theorem rclock_as (r R : Rt) (g : Nat) (n : Int) (w : World) (h : Ri w g r) (hl : ¬ r.late n) (hR : R = r.at' n) : Calls Try.prog 43 #[.pointer (some ⟨g, 0, none⟩), .int .i64 n] w fun e w' => e = .returned (.bool true) ∧ Put w w' g 70 R.cells := hR ▸ rclock_yes r g n w h hl
theorem rcounts_as (R : Rt) (g : Nat) (m : Int) (w : World) (b : Bool) (h : Ri w g R) (hb : R.counts m = b) : Calls Try.prog 47 #[.pointer (some ⟨g, 0, none⟩), .int .i64 m] w fun e w' => e = .returned (.bool b) ∧ Put w w' g 70 R.cells := hb ▸ rcounts_calls R g m w h
theorem Rm.at' {r : Rt} {n : Int} (hm : Rm r) (hl : ¬ r.late n) : Rm (r.at' n) := by
  unfold Rt.late at hl
  exact ⟨hm.most, hm.low, hm.high, hm.tries, hm.losses, hm.given, hm.at_, hm.since, by have := hm.last; show 0 ≤ n ∧ n ≤ 1099511627776; omega⟩
set_option maxRecDepth 100000 in
set_option maxHeartbeats 4000000 in
theorem rgot_any (r : Rt) (g : Nat) (m n : Int) (w : World) (h : Ri w g r) (hm : Rm r) :
    Calls Try.prog 33 #[.pointer (some ⟨g, 0, none⟩), .int .i64 m, .int .i64 n] w fun e w' => e = .returned (.int .i64 (r.gotA m n).1) ∧ Put w w' g 70 (r.gotA m n).2.cells := by
  have H := Lib.hid h
  clear h
  unfold Rt.gotA
  by_cases hl : r.late n
  · rw [if_pos hl]
    have HL := Lib.hid hl
    clear hl hm
    go_enter Try.func33, Try.ntmps33
    go_wp2_with (go_at_call 43; (with_reducible refine (rclock_no r g n _ H.out HL.out).mono ?_); rintro e w1 ⟨rfl, hp1⟩)
    go_ret
    exact ⟨rfl, by (apply Put.to; (repeat (with_reducible first | apply Put.after hp1 | exact Put.refl H.out | apply Put.set_ | apply Put.drewN | apply Put.drew)); (first | (simp [Rt.cells, Rt.lost0, Rt.lost1, Rt.at', Rt.give, Rt.ackB, Rt.ackS, Rt.ackT]; done) | rfl))⟩
  · rw [if_neg hl]
    have hmR := hm.at' hl
    have HL := Lib.hid hl
    obtain ⟨R, hR⟩ : ∃ R, R = r.at' n := ⟨_, rfl⟩
    rw [← hR] at hmR ⊢
    have HR := Lib.hid hR
    have hmax : 0 ≤ n ∧ n ≤ 1099511627776 := by have := hm.last; unfold Rt.late at hl; omega
    have hMR := Lib.hid hmR
    clear hl hR hm
    unfold Rt.got
    by_cases hc : R.counts m = true
    · rw [if_pos hc]
      have HC : Hid (R.counts m = true) := Lib.hid hc
      clear hc hmR
      go_enter Try.func33, Try.ntmps33
      go_wp2_with (first | (go_at_call 43; (with_reducible refine (rclock_as r R g n _ H.out HL.out HR.out).mono ?_); rintro e w1 ⟨rfl, hp1⟩; obtain ⟨c0, c1, c2, c3, c4, c5, c6, c7, c8, c9, c10, c11, c12, c13, c14, c15, c16, c17, c18, c19, c20⟩ := Ri.all hp1.blk; have hf1 : ∀ i, w1.frozen? ⟨g, i, none⟩ = false := (fun i => hp1.blk.frozen i)) | (go_at_call 47; (with_reducible refine (rcounts_as R g m _ true hp1.blk HC.out).mono ?_); rintro e w2 ⟨rfl, hp2⟩; obtain ⟨d0, d1, d2, d3, d4, d5, d6, d7, d8, d9, d10, d11, d12, d13, d14, d15, d16, d17, d18, d19, d20⟩ := Ri.all hp2.blk; have hf2 : ∀ i, w2.frozen? ⟨g, i, none⟩ = false := (fun i => hp2.blk.frozen i)))
      go_ret
      exact ⟨rfl, by (apply Put.to; (repeat (with_reducible first | apply Put.after hp2 | exact hp1 | exact Put.refl H.out | apply Put.set_ | apply Put.drewN | apply Put.drew)); (first | (simp [Rt.cells, Rt.lost0, Rt.lost1, Rt.at', Rt.give, Rt.ackB, Rt.ackS, Rt.ackT]; done) | rfl))⟩
    · rw [if_neg hc]
      have HC : Hid (R.counts m = false) := Lib.hid (Bool.eq_false_iff.2 hc)
      clear hc hmR
      go_enter Try.func33, Try.ntmps33
      go_wp2_with (first | (go_at_call 43; (with_reducible refine (rclock_as r R g n _ H.out HL.out HR.out).mono ?_); rintro e w1 ⟨rfl, hp1⟩; obtain ⟨c0, c1, c2, c3, c4, c5, c6, c7, c8, c9, c10, c11, c12, c13, c14, c15, c16, c17, c18, c19, c20⟩ := Ri.all hp1.blk; have hf1 : ∀ i, w1.frozen? ⟨g, i, none⟩ = false := (fun i => hp1.blk.frozen i)) | (go_at_call 47; (with_reducible refine (rcounts_as R g m _ false hp1.blk HC.out).mono ?_); rintro e w2 ⟨rfl, hp2⟩; obtain ⟨d0, d1, d2, d3, d4, d5, d6, d7, d8, d9, d10, d11, d12, d13, d14, d15, d16, d17, d18, d19, d20⟩ := Ri.all hp2.blk; have hf2 : ∀ i, w2.frozen? ⟨g, i, none⟩ = false := (fun i => hp2.blk.frozen i)))
      go_ret
      exact ⟨rfl, by (apply Put.to; (repeat (with_reducible first | apply Put.after hp2 | exact hp1 | exact Put.refl H.out | apply Put.set_ | apply Put.drewN | apply Put.drew)); (first | (simp [Rt.cells, Rt.lost0, Rt.lost1, Rt.at', Rt.give, Rt.ackB, Rt.ackS, Rt.ackT]; done) | rfl))⟩
set_option maxRecDepth 100000 in
set_option maxHeartbeats 4000000 in
theorem rlost_any (r : Rt) (g : Nat) (m n : Int) (w : World) (h : Ri w g r) (hm : Rm r) :
    Calls Try.prog 34 #[.pointer (some ⟨g, 0, none⟩), .int .i64 m, .int .i64 n] w fun e w' => e = .returned (.tuple #[.bool (r.lostA m n).1.1, .int .i64 (r.lostA m n).1.2]) ∧ Put w w' g 70 (r.lostA m n).2.cells := by
  have H := Lib.hid h
  clear h
  unfold Rt.lostA
  by_cases hl : r.late n
  · rw [if_pos hl]
    have HL := Lib.hid hl
    clear hl hm
    go_enter Try.func34, Try.ntmps34
    go_wp2_with (go_at_call 43; (with_reducible refine (rclock_no r g n _ H.out HL.out).mono ?_); rintro e w1 ⟨rfl, hp1⟩)
    go_ret2
    exact ⟨rfl, by (apply Put.to; (repeat (with_reducible first | apply Put.after hp1 | exact Put.refl H.out | apply Put.set_ | apply Put.drewN | apply Put.drew)); (first | (simp [Rt.cells, Rt.lost0, Rt.lost1, Rt.at', Rt.give, Rt.ackB, Rt.ackS, Rt.ackT]; done) | rfl))⟩
  · rw [if_neg hl]
    have hmR := hm.at' hl
    have HL := Lib.hid hl
    obtain ⟨R, hR⟩ : ∃ R, R = r.at' n := ⟨_, rfl⟩
    rw [← hR] at hmR ⊢
    have HR := Lib.hid hR
    have hmax : 0 ≤ n ∧ n ≤ 1099511627776 := by have := hm.last; unfold Rt.late at hl; omega
    have hMR := Lib.hid hmR
    clear hl hR hm
    unfold Rt.lost
    obtain ⟨l0, l1⟩ := hmR.losses
    clear hmR
    by_cases hc : R.counts m = true
    · rw [if_pos hc]
      have HC : Hid (R.counts m = true) := Lib.hid hc
      clear hc
      by_cases h3 : R.losses + 1 < R.mlosses
      · rw [if_pos h3]
        have h3_t : decide (R.losses + 1 < R.mlosses) = true := decide_eq_true h3
        clear h3
        go_enter Try.func34, Try.ntmps34
        go_wp2_with (first | (go_at_call 43; (with_reducible refine (rclock_as r R g n _ H.out HL.out HR.out).mono ?_); rintro e w1 ⟨rfl, hp1⟩; obtain ⟨c0, c1, c2, c3, c4, c5, c6, c7, c8, c9, c10, c11, c12, c13, c14, c15, c16, c17, c18, c19, c20⟩ := Ri.all hp1.blk; have hf1 : ∀ i, w1.frozen? ⟨g, i, none⟩ = false := (fun i => hp1.blk.frozen i)) | (go_at_call 47; (with_reducible refine (rcounts_as R g m _ true hp1.blk HC.out).mono ?_); rintro e w2 ⟨rfl, hp2⟩; obtain ⟨d0, d1, d2, d3, d4, d5, d6, d7, d8, d9, d10, d11, d12, d13, d14, d15, d16, d17, d18, d19, d20⟩ := Ri.all hp2.blk; have hf2 : ∀ i, w2.frozen? ⟨g, i, none⟩ = false := (fun i => hp2.blk.frozen i)))
        apply rnamed (w := w) (g := g) (s := ({ R with losses := R.losses + 1 } : Rt))
        (repeat (with_reducible first | apply Put.after hp2 | exact hp1 | exact Put.refl H.out | apply Put.set_ | apply Put.drewN | apply Put.drew)); (first | (simp [Rt.cells, Rt.lost0, Rt.lost1, Rt.at', Rt.give, Rt.ackB, Rt.ackS, Rt.ackT]; done) | rfl)
        intro w3 hp3
        clear d0 d1 d2 d3 d4 d5 d6 d7 d8 d9 d10 d11 d12 d13 d14 d15 d16 d17 d18 d19 d20 hf2 c0 c1 c2 c3 c4 c5 c6 c7 c8 c9 c10 c11 c12 c13 c14 c15 c16 c17 c18 c19 c20 hf1
        obtain ⟨e0, e1, e2, e3, e4, e5, e6, e7, e8, e9, e10, e11, e12, e13, e14, e15, e16, e17, e18, e19, e20⟩ := Ri.all hp3.blk
        have hf3 : ∀ i, w3.frozen? ⟨g, i, none⟩ = false := (fun i => hp3.blk.frozen i)
        try dsimp only at e0 e1 e2 e3 e4 e5 e6 e7 e8 e9 e10 e11 e12 e13 e14 e15 e16 e17 e18 e19 e20
        go_quiet (fail)
        go_wp2_with fail
        go_ret2
        exact ⟨rfl, by (apply Put.to; (repeat (with_reducible first | exact hp3 | exact Put.refl H.out | apply Put.set_ | apply Put.drewN | apply Put.drew)); (first | (simp [Rt.cells, Rt.lost0, Rt.lost1, Rt.at', Rt.give, Rt.ackB, Rt.ackS, Rt.ackT]; done) | rfl))⟩
      · rw [if_neg h3]
        have h3_t : decide (R.losses + 1 < R.mlosses) = false := decide_eq_false h3
        have h3_u : R.mlosses ≤ R.losses + 1 := by omega
        clear h3
        go_enter Try.func34, Try.ntmps34
        go_wp2_with (first | (go_at_call 43; (with_reducible refine (rclock_as r R g n _ H.out HL.out HR.out).mono ?_); rintro e w1 ⟨rfl, hp1⟩; obtain ⟨c0, c1, c2, c3, c4, c5, c6, c7, c8, c9, c10, c11, c12, c13, c14, c15, c16, c17, c18, c19, c20⟩ := Ri.all hp1.blk; have hf1 : ∀ i, w1.frozen? ⟨g, i, none⟩ = false := (fun i => hp1.blk.frozen i)) | (go_at_call 47; (with_reducible refine (rcounts_as R g m _ true hp1.blk HC.out).mono ?_); rintro e w2 ⟨rfl, hp2⟩; obtain ⟨d0, d1, d2, d3, d4, d5, d6, d7, d8, d9, d10, d11, d12, d13, d14, d15, d16, d17, d18, d19, d20⟩ := Ri.all hp2.blk; have hf2 : ∀ i, w2.frozen? ⟨g, i, none⟩ = false := (fun i => hp2.blk.frozen i)))
        apply rnamed (w := w) (g := g) (s := ({ R with losses := R.losses + 1 } : Rt))
        (repeat (with_reducible first | apply Put.after hp2 | exact hp1 | exact Put.refl H.out | apply Put.set_ | apply Put.drewN | apply Put.drew)); (first | (simp [Rt.cells, Rt.lost0, Rt.lost1, Rt.at', Rt.give, Rt.ackB, Rt.ackS, Rt.ackT]; done) | rfl)
        intro w3 hp3
        clear d0 d1 d2 d3 d4 d5 d6 d7 d8 d9 d10 d11 d12 d13 d14 d15 d16 d17 d18 d19 d20 hf2 c0 c1 c2 c3 c4 c5 c6 c7 c8 c9 c10 c11 c12 c13 c14 c15 c16 c17 c18 c19 c20 hf1
        obtain ⟨e0, e1, e2, e3, e4, e5, e6, e7, e8, e9, e10, e11, e12, e13, e14, e15, e16, e17, e18, e19, e20⟩ := Ri.all hp3.blk
        have hf3 : ∀ i, w3.frozen? ⟨g, i, none⟩ = false := (fun i => hp3.blk.frozen i)
        try dsimp only at e0 e1 e2 e3 e4 e5 e6 e7 e8 e9 e10 e11 e12 e13 e14 e15 e16 e17 e18 e19 e20
        go_quiet (fail)
        go_wp2_with fail
        go_ret2
        exact ⟨rfl, by (apply Put.to; (repeat (with_reducible first | exact hp3 | exact Put.refl H.out | apply Put.set_ | apply Put.drewN | apply Put.drew)); (first | (simp [Rt.cells, Rt.lost0, Rt.lost1, Rt.at', Rt.give, Rt.ackB, Rt.ackS, Rt.ackT]; done) | rfl))⟩
    · rw [if_neg hc]
      have HC : Hid (R.counts m = false) := Lib.hid (Bool.eq_false_iff.2 hc)
      clear hc
      go_enter Try.func34, Try.ntmps34
      go_wp2_with (first | (go_at_call 43; (with_reducible refine (rclock_as r R g n _ H.out HL.out HR.out).mono ?_); rintro e w1 ⟨rfl, hp1⟩; obtain ⟨c0, c1, c2, c3, c4, c5, c6, c7, c8, c9, c10, c11, c12, c13, c14, c15, c16, c17, c18, c19, c20⟩ := Ri.all hp1.blk; have hf1 : ∀ i, w1.frozen? ⟨g, i, none⟩ = false := (fun i => hp1.blk.frozen i)) | (go_at_call 47; (with_reducible refine (rcounts_as R g m _ false hp1.blk HC.out).mono ?_); rintro e w2 ⟨rfl, hp2⟩; obtain ⟨d0, d1, d2, d3, d4, d5, d6, d7, d8, d9, d10, d11, d12, d13, d14, d15, d16, d17, d18, d19, d20⟩ := Ri.all hp2.blk; have hf2 : ∀ i, w2.frozen? ⟨g, i, none⟩ = false := (fun i => hp2.blk.frozen i)))
      go_ret2
      exact ⟨rfl, by (apply Put.to; (repeat (with_reducible first | apply Put.after hp2 | exact hp1 | exact Put.refl H.out | apply Put.set_ | apply Put.drewN | apply Put.drew)); (first | (simp [Rt.cells, Rt.lost0, Rt.lost1, Rt.at', Rt.give, Rt.ackB, Rt.ackS, Rt.ackT]; done) | rfl))⟩
end Go.Proofs.Ytmanojnhjhpokaa.PB
