/- Contract of the statements' own call of the reference's path (must), told by the program's path that goes with it. Conditions: the two paths go together, the invariant holds, fewer than 2^50 numbers were given. -/
import Derived.Test.YtmanojnhjhpokaaRM
namespace Go.Proofs.Ytmanojnhjhpokaa.PB
set_option linter.unusedVariables false
set_option linter.unusedSimpArgs false
open Go.RowKit
set_option maxRecDepth 100000 in
set_option maxHeartbeats 4000000 in
theorem must_2 (K : Int) (s : Pt) (r : Rt) (g : Nat) (o_kind o_n o_size o_now c1 c2 c3 c4 c5 c6 c7 : Int) (k2 : o_kind = 2) (w : World) (h : Ri w g r) (hs : Hid (Sim s r)) (hi : Inv K s) (hb : Rb r) (hK : K + 1 ≤ 1125899906842624) :
    Calls Try.prog 13 #[.pointer (some ⟨g, 0, none⟩), .agg #[.int .i64 o_kind, .int .i64 c1, .int .i64 c2, .int .i64 c3, .int .i64 c4, .int .i64 c5, .int .i64 c6, .int .i64 c7, .int .i64 o_n, .int .i64 o_size, .int .i64 o_now]] w fun e w' => ∃ r2 : Rt, e = .returned (Pt.says s ⟨o_kind, ⟨c1, c2, c3, c4, c5, c6, c7⟩, o_n, o_size, o_now⟩).val ∧ Sim (Pt.after s ⟨o_kind, ⟨c1, c2, c3, c4, c5, c6, c7⟩, o_n, o_size, o_now⟩) r2 ∧ Rb r2 ∧ Put w w' g 70 r2.cells := by
  obtain ⟨S, hS⟩ : ∃ S, S = (s.nextA o_now).2 := ⟨_, rfl⟩
  obtain ⟨R, hR⟩ : ∃ R, R = (r.nextA o_now).2 := ⟨_, rfl⟩
  have ha : Pt.after s ⟨o_kind, ⟨c1, c2, c3, c4, c5, c6, c7⟩, o_n, o_size, o_now⟩ = S := by unfold Pt.after; rw [if_pos (show o_kind = 2 from k2)]; exact hS.symm
  have hy : Pt.says s ⟨o_kind, ⟨c1, c2, c3, c4, c5, c6, c7⟩, o_n, o_size, o_now⟩ = ⟨(s.nextA o_now).1.1, (s.nextA o_now).1.2.1, false, (s.nextA o_now).1.2.2, S.size, S.state⟩ := by unfold Pt.says; rw [ha]; rw [if_pos (show o_kind = 2 from k2)]
  rw [ha, hy]
  clear ha hy
  have HSR : Hid (Sim S R) := Lib.hid (by rw [hS, hR]; exact (hs.out.nextA hi hb o_now).1)
  have HRB : Hid (Rb R) := Lib.hid (by rw [hR]; exact (hs.out.nextA hi hb o_now).2.2)
  have HS := Lib.hid hS
  have HR := Lib.hid hR
  clear hS hR
  have hK1 : K ≤ 1125899906842624 := by omega
  have hg0 := h.lt
  have hn1 : ¬ w.heap.size + 1 = g := by omega
  have hn2 : ¬ w.heap.size + 2 = g := by omega
  have hm1 : ¬ g = w.heap.size + 1 := by omega
  have hm2 : ¬ g = w.heap.size + 2 := by omega
  have H := Lib.hid h; clear h
  have k2_t : (o_kind == 2) = true := beq_iff_eq.2 k2
  have k2_u : (o_kind != 2) = false := bne_eq_false_iff_eq.2 k2
  clear k2
  go_enter Try.func13, Try.ntmps13
  go_wp2_with (first | (go_at_call 30; (with_reducible refine (rnext_sim K s r g _ _ ?qis hs.out hi hb hK).mono ?_); (case qis => apply ris_of (w := w); (repeat (with_reducible first | exact Put.refl H.out | apply Put.drewN | apply Put.drew | apply Put.alloc | (apply Put.far2 hg0; (case hp => simp <;> omega)))); rfl); rintro e w1 ⟨rfl, hp1⟩; rw [← HR.out] at hp1; have hz_w1 : w.heap.size + 2 < w1.heap.size := (by have h_ := hp1.size; simp at h_; omega); have hp1c1 := hp1.cell_other (w.heap.size + 1) (by simp <;> omega) hn1; have hp1c2 := hp1.cell_other (w.heap.size + 2) (by simp <;> omega) hn2; have hp1f1 := hp1.frozen_other (w.heap.size + 1) (by simp <;> omega) hn1; have hp1f2 := hp1.frozen_other (w.heap.size + 2) (by simp <;> omega) hn2) | (go_at_call 35; (with_reducible refine (rsize_sim S R g _ ?qis HSR.out).mono ?_); (case qis => apply ris_of (w := w); (repeat (with_reducible first | apply Put.after hp1 | exact Put.refl H.out | apply Put.drewN | apply Put.drew | apply Put.alloc | (apply Put.far2 hg0; (case hp => simp <;> omega)))); rfl); rintro e w2 ⟨rfl, hp2⟩; have hz_w2 : w.heap.size + 2 < w2.heap.size := (by have h_ := hp2.size; simp at h_; omega); have hp2c1 := hp2.cell_other (w.heap.size + 1) (by simp <;> omega) hn1; have hp2c2 := hp2.cell_other (w.heap.size + 2) (by simp <;> omega) hn2; have hp2f1 := hp2.frozen_other (w.heap.size + 1) (by simp <;> omega) hn1; have hp2f2 := hp2.frozen_other (w.heap.size + 2) (by simp <;> omega) hn2) | (go_at_call 36; (with_reducible refine (rstate_sim S R g _ ?qis HSR.out).mono ?_); (case qis => apply ris_of (w := w); (repeat (with_reducible first | apply Put.after hp2 | apply Put.after hp1 | exact Put.refl H.out | apply Put.drewN | apply Put.drew | apply Put.alloc | (apply Put.far2 hg0; (case hp => simp <;> omega)))); rfl); rintro e w3 ⟨rfl, hp3⟩; have hz_w3 : w.heap.size + 2 < w3.heap.size := (by have h_ := hp3.size; simp at h_; omega); have hp3c1 := hp3.cell_other (w.heap.size + 1) (by simp <;> omega) hn1; have hp3c2 := hp3.cell_other (w.heap.size + 2) (by simp <;> omega) hn2; have hp3f1 := hp3.frozen_other (w.heap.size + 1) (by simp <;> omega) hn1; have hp3f2 := hp3.frozen_other (w.heap.size + 2) (by simp <;> omega) hn2))
  exact bodyPost_ret (v := (Ans.val (⟨(s.nextA o_now).1.1, (s.nextA o_now).1.2.1, false, (s.nextA o_now).1.2.2, S.size, S.state⟩ : Ans))) (by simp [results, Try.results13, go_sem, Ans.val, hp3c1, hp2c1, hp1c1]) rfl ⟨R, rfl, HSR.out, HRB.out, by (repeat (with_reducible first | apply Put.after hp3 | apply Put.after hp2 | apply Put.after hp1 | exact Put.refl H.out | apply Put.drewN | apply Put.drew | apply Put.alloc | (apply Put.far2 hg0; (case hp => simp <;> omega))))⟩
set_option maxRecDepth 100000 in
set_option maxHeartbeats 4000000 in
theorem must_3 (K : Int) (s : Pt) (r : Rt) (g : Nat) (o_kind o_n o_size o_now c1 c2 c3 c4 c5 c6 c7 : Int) (k2 : ¬ o_kind = 2) (k3 : o_kind = 3) (w : World) (h : Ri w g r) (hs : Hid (Sim s r)) (hi : Inv K s) (hb : Rb r) (hK : K + 1 ≤ 1125899906842624) :
    Calls Try.prog 13 #[.pointer (some ⟨g, 0, none⟩), .agg #[.int .i64 o_kind, .int .i64 c1, .int .i64 c2, .int .i64 c3, .int .i64 c4, .int .i64 c5, .int .i64 c6, .int .i64 c7, .int .i64 o_n, .int .i64 o_size, .int .i64 o_now]] w fun e w' => ∃ r2 : Rt, e = .returned (Pt.says s ⟨o_kind, ⟨c1, c2, c3, c4, c5, c6, c7⟩, o_n, o_size, o_now⟩).val ∧ Sim (Pt.after s ⟨o_kind, ⟨c1, c2, c3, c4, c5, c6, c7⟩, o_n, o_size, o_now⟩) r2 ∧ Rb r2 ∧ Put w w' g 70 r2.cells := by
  obtain ⟨S, hS⟩ : ∃ S, S = (s.ackedA o_n o_now).2 := ⟨_, rfl⟩
  obtain ⟨R, hR⟩ : ∃ R, R = (r.ackedA o_n o_now).2 := ⟨_, rfl⟩
  have ha : Pt.after s ⟨o_kind, ⟨c1, c2, c3, c4, c5, c6, c7⟩, o_n, o_size, o_now⟩ = S := by unfold Pt.after; rw [if_neg (show ¬ o_kind = 2 from k2)]; rw [if_pos (show o_kind = 3 from k3)]; exact hS.symm
  have hy : Pt.says s ⟨o_kind, ⟨c1, c2, c3, c4, c5, c6, c7⟩, o_n, o_size, o_now⟩ = ⟨0, 0, (s.ackedA o_n o_now).1.1, (s.ackedA o_n o_now).1.2, S.size, S.state⟩ := by unfold Pt.says; rw [ha]; rw [if_neg (show ¬ o_kind = 2 from k2)]; rw [if_pos (show o_kind = 3 from k3)]
  rw [ha, hy]
  clear ha hy
  have HSR : Hid (Sim S R) := Lib.hid (by rw [hS, hR]; exact (hs.out.ackedA hi hb o_n o_now).1)
  have HRB : Hid (Rb R) := Lib.hid (by rw [hR]; exact (hs.out.ackedA hi hb o_n o_now).2.2)
  have HS := Lib.hid hS
  have HR := Lib.hid hR
  clear hS hR
  have hK1 : K ≤ 1125899906842624 := by omega
  have hg0 := h.lt
  have hn1 : ¬ w.heap.size + 1 = g := by omega
  have hn2 : ¬ w.heap.size + 2 = g := by omega
  have hm1 : ¬ g = w.heap.size + 1 := by omega
  have hm2 : ¬ g = w.heap.size + 2 := by omega
  have H := Lib.hid h; clear h
  have k2_t : (o_kind == 2) = false := beq_eq_false_iff_ne.2 k2
  have k2_u : (o_kind != 2) = true := bne_iff_ne.2 k2
  clear k2
  have k3_t : (o_kind == 3) = true := beq_iff_eq.2 k3
  have k3_u : (o_kind != 3) = false := bne_eq_false_iff_eq.2 k3
  clear k3
  go_enter Try.func13, Try.ntmps13
  go_wp2_with (first | (go_at_call 31; (with_reducible refine (racked_sim K s r g _ _ _ ?qis hs.out hi hb hK1).mono ?_); (case qis => apply ris_of (w := w); (repeat (with_reducible first | exact Put.refl H.out | apply Put.drewN | apply Put.drew | apply Put.alloc | (apply Put.far2 hg0; (case hp => simp <;> omega)))); rfl); rintro e w1 ⟨rfl, hp1⟩; rw [← HR.out] at hp1; have hz_w1 : w.heap.size + 2 < w1.heap.size := (by have h_ := hp1.size; simp at h_; omega); have hp1c1 := hp1.cell_other (w.heap.size + 1) (by simp <;> omega) hn1; have hp1c2 := hp1.cell_other (w.heap.size + 2) (by simp <;> omega) hn2; have hp1f1 := hp1.frozen_other (w.heap.size + 1) (by simp <;> omega) hn1; have hp1f2 := hp1.frozen_other (w.heap.size + 2) (by simp <;> omega) hn2) | (go_at_call 35; (with_reducible refine (rsize_sim S R g _ ?qis HSR.out).mono ?_); (case qis => apply ris_of (w := w); (repeat (with_reducible first | apply Put.after hp1 | exact Put.refl H.out | apply Put.drewN | apply Put.drew | apply Put.alloc | (apply Put.far2 hg0; (case hp => simp <;> omega)))); rfl); rintro e w2 ⟨rfl, hp2⟩; have hz_w2 : w.heap.size + 2 < w2.heap.size := (by have h_ := hp2.size; simp at h_; omega); have hp2c1 := hp2.cell_other (w.heap.size + 1) (by simp <;> omega) hn1; have hp2c2 := hp2.cell_other (w.heap.size + 2) (by simp <;> omega) hn2; have hp2f1 := hp2.frozen_other (w.heap.size + 1) (by simp <;> omega) hn1; have hp2f2 := hp2.frozen_other (w.heap.size + 2) (by simp <;> omega) hn2) | (go_at_call 36; (with_reducible refine (rstate_sim S R g _ ?qis HSR.out).mono ?_); (case qis => apply ris_of (w := w); (repeat (with_reducible first | apply Put.after hp2 | apply Put.after hp1 | exact Put.refl H.out | apply Put.drewN | apply Put.drew | apply Put.alloc | (apply Put.far2 hg0; (case hp => simp <;> omega)))); rfl); rintro e w3 ⟨rfl, hp3⟩; have hz_w3 : w.heap.size + 2 < w3.heap.size := (by have h_ := hp3.size; simp at h_; omega); have hp3c1 := hp3.cell_other (w.heap.size + 1) (by simp <;> omega) hn1; have hp3c2 := hp3.cell_other (w.heap.size + 2) (by simp <;> omega) hn2; have hp3f1 := hp3.frozen_other (w.heap.size + 1) (by simp <;> omega) hn1; have hp3f2 := hp3.frozen_other (w.heap.size + 2) (by simp <;> omega) hn2))
  exact bodyPost_ret (v := (Ans.val (⟨0, 0, (s.ackedA o_n o_now).1.1, (s.ackedA o_n o_now).1.2, S.size, S.state⟩ : Ans))) (by simp [results, Try.results13, go_sem, Ans.val, hp3c1, hp2c1, hp1c1]) rfl ⟨R, rfl, HSR.out, HRB.out, by (repeat (with_reducible first | apply Put.after hp3 | apply Put.after hp2 | apply Put.after hp1 | exact Put.refl H.out | apply Put.drewN | apply Put.drew | apply Put.alloc | (apply Put.far2 hg0; (case hp => simp <;> omega))))⟩
set_option maxRecDepth 100000 in
set_option maxHeartbeats 4000000 in
theorem must_4 (K : Int) (s : Pt) (r : Rt) (g : Nat) (o_kind o_n o_size o_now c1 c2 c3 c4 c5 c6 c7 : Int) (k2 : ¬ o_kind = 2) (k3 : ¬ o_kind = 3) (k4 : o_kind = 4) (w : World) (h : Ri w g r) (hs : Hid (Sim s r)) (hi : Inv K s) (hb : Rb r) (hK : K + 1 ≤ 1125899906842624) :
    Calls Try.prog 13 #[.pointer (some ⟨g, 0, none⟩), .agg #[.int .i64 o_kind, .int .i64 c1, .int .i64 c2, .int .i64 c3, .int .i64 c4, .int .i64 c5, .int .i64 c6, .int .i64 c7, .int .i64 o_n, .int .i64 o_size, .int .i64 o_now]] w fun e w' => ∃ r2 : Rt, e = .returned (Pt.says s ⟨o_kind, ⟨c1, c2, c3, c4, c5, c6, c7⟩, o_n, o_size, o_now⟩).val ∧ Sim (Pt.after s ⟨o_kind, ⟨c1, c2, c3, c4, c5, c6, c7⟩, o_n, o_size, o_now⟩) r2 ∧ Rb r2 ∧ Put w w' g 70 r2.cells := by
  obtain ⟨S, hS⟩ : ∃ S, S = (s.tooBigA o_n o_size o_now).2 := ⟨_, rfl⟩
  obtain ⟨R, hR⟩ : ∃ R, R = (r.tooBigA o_n o_size o_now).2 := ⟨_, rfl⟩
  have ha : Pt.after s ⟨o_kind, ⟨c1, c2, c3, c4, c5, c6, c7⟩, o_n, o_size, o_now⟩ = S := by unfold Pt.after; rw [if_neg (show ¬ o_kind = 2 from k2)]; rw [if_neg (show ¬ o_kind = 3 from k3)]; rw [if_pos (show o_kind = 4 from k4)]; exact hS.symm
  have hy : Pt.says s ⟨o_kind, ⟨c1, c2, c3, c4, c5, c6, c7⟩, o_n, o_size, o_now⟩ = ⟨0, 0, (s.tooBigA o_n o_size o_now).1.1, (s.tooBigA o_n o_size o_now).1.2, S.size, S.state⟩ := by unfold Pt.says; rw [ha]; rw [if_neg (show ¬ o_kind = 2 from k2)]; rw [if_neg (show ¬ o_kind = 3 from k3)]; rw [if_pos (show o_kind = 4 from k4)]
  rw [ha, hy]
  clear ha hy
  have HSR : Hid (Sim S R) := Lib.hid (by rw [hS, hR]; exact (hs.out.tooBigA hi hb o_n o_size o_now).1)
  have HRB : Hid (Rb R) := Lib.hid (by rw [hR]; exact (hs.out.tooBigA hi hb o_n o_size o_now).2.2)
  have HS := Lib.hid hS
  have HR := Lib.hid hR
  clear hS hR
  have hK1 : K ≤ 1125899906842624 := by omega
  have hg0 := h.lt
  have hn1 : ¬ w.heap.size + 1 = g := by omega
  have hn2 : ¬ w.heap.size + 2 = g := by omega
  have hm1 : ¬ g = w.heap.size + 1 := by omega
  have hm2 : ¬ g = w.heap.size + 2 := by omega
  have H := Lib.hid h; clear h
  have k2_t : (o_kind == 2) = false := beq_eq_false_iff_ne.2 k2
  have k2_u : (o_kind != 2) = true := bne_iff_ne.2 k2
  clear k2
  have k3_t : (o_kind == 3) = false := beq_eq_false_iff_ne.2 k3
  have k3_u : (o_kind != 3) = true := bne_iff_ne.2 k3
  clear k3
  have k4_t : (o_kind == 4) = true := beq_iff_eq.2 k4
  have k4_u : (o_kind != 4) = false := bne_eq_false_iff_eq.2 k4
  clear k4
  go_enter Try.func13, Try.ntmps13
  go_wp2_with (first | (go_at_call 32; (with_reducible refine (rtooBig_sim K s r g _ _ _ _ ?qis hs.out hi hb hK1).mono ?_); (case qis => apply ris_of (w := w); (repeat (with_reducible first | exact Put.refl H.out | apply Put.drewN | apply Put.drew | apply Put.alloc | (apply Put.far2 hg0; (case hp => simp <;> omega)))); rfl); rintro e w1 ⟨rfl, hp1⟩; rw [← HR.out] at hp1; have hz_w1 : w.heap.size + 2 < w1.heap.size := (by have h_ := hp1.size; simp at h_; omega); have hp1c1 := hp1.cell_other (w.heap.size + 1) (by simp <;> omega) hn1; have hp1c2 := hp1.cell_other (w.heap.size + 2) (by simp <;> omega) hn2; have hp1f1 := hp1.frozen_other (w.heap.size + 1) (by simp <;> omega) hn1; have hp1f2 := hp1.frozen_other (w.heap.size + 2) (by simp <;> omega) hn2) | (go_at_call 35; (with_reducible refine (rsize_sim S R g _ ?qis HSR.out).mono ?_); (case qis => apply ris_of (w := w); (repeat (with_reducible first | apply Put.after hp1 | exact Put.refl H.out | apply Put.drewN | apply Put.drew | apply Put.alloc | (apply Put.far2 hg0; (case hp => simp <;> omega)))); rfl); rintro e w2 ⟨rfl, hp2⟩; have hz_w2 : w.heap.size + 2 < w2.heap.size := (by have h_ := hp2.size; simp at h_; omega); have hp2c1 := hp2.cell_other (w.heap.size + 1) (by simp <;> omega) hn1; have hp2c2 := hp2.cell_other (w.heap.size + 2) (by simp <;> omega) hn2; have hp2f1 := hp2.frozen_other (w.heap.size + 1) (by simp <;> omega) hn1; have hp2f2 := hp2.frozen_other (w.heap.size + 2) (by simp <;> omega) hn2) | (go_at_call 36; (with_reducible refine (rstate_sim S R g _ ?qis HSR.out).mono ?_); (case qis => apply ris_of (w := w); (repeat (with_reducible first | apply Put.after hp2 | apply Put.after hp1 | exact Put.refl H.out | apply Put.drewN | apply Put.drew | apply Put.alloc | (apply Put.far2 hg0; (case hp => simp <;> omega)))); rfl); rintro e w3 ⟨rfl, hp3⟩; have hz_w3 : w.heap.size + 2 < w3.heap.size := (by have h_ := hp3.size; simp at h_; omega); have hp3c1 := hp3.cell_other (w.heap.size + 1) (by simp <;> omega) hn1; have hp3c2 := hp3.cell_other (w.heap.size + 2) (by simp <;> omega) hn2; have hp3f1 := hp3.frozen_other (w.heap.size + 1) (by simp <;> omega) hn1; have hp3f2 := hp3.frozen_other (w.heap.size + 2) (by simp <;> omega) hn2))
  exact bodyPost_ret (v := (Ans.val (⟨0, 0, (s.tooBigA o_n o_size o_now).1.1, (s.tooBigA o_n o_size o_now).1.2, S.size, S.state⟩ : Ans))) (by simp [results, Try.results13, go_sem, Ans.val, hp3c1, hp2c1, hp1c1]) rfl ⟨R, rfl, HSR.out, HRB.out, by (repeat (with_reducible first | apply Put.after hp3 | apply Put.after hp2 | apply Put.after hp1 | exact Put.refl H.out | apply Put.drewN | apply Put.drew | apply Put.alloc | (apply Put.far2 hg0; (case hp => simp <;> omega))))⟩
set_option maxRecDepth 100000 in
set_option maxHeartbeats 4000000 in
theorem must_5 (K : Int) (s : Pt) (r : Rt) (g : Nat) (o_kind o_n o_size o_now c1 c2 c3 c4 c5 c6 c7 : Int) (k2 : ¬ o_kind = 2) (k3 : ¬ o_kind = 3) (k4 : ¬ o_kind = 4) (k5 : o_kind = 5) (w : World) (h : Ri w g r) (hs : Hid (Sim s r)) (hi : Inv K s) (hb : Rb r) (hK : K + 1 ≤ 1125899906842624) :
    Calls Try.prog 13 #[.pointer (some ⟨g, 0, none⟩), .agg #[.int .i64 o_kind, .int .i64 c1, .int .i64 c2, .int .i64 c3, .int .i64 c4, .int .i64 c5, .int .i64 c6, .int .i64 c7, .int .i64 o_n, .int .i64 o_size, .int .i64 o_now]] w fun e w' => ∃ r2 : Rt, e = .returned (Pt.says s ⟨o_kind, ⟨c1, c2, c3, c4, c5, c6, c7⟩, o_n, o_size, o_now⟩).val ∧ Sim (Pt.after s ⟨o_kind, ⟨c1, c2, c3, c4, c5, c6, c7⟩, o_n, o_size, o_now⟩) r2 ∧ Rb r2 ∧ Put w w' g 70 r2.cells := by
  obtain ⟨S, hS⟩ : ∃ S, S = (s.gotA o_size o_now).2 := ⟨_, rfl⟩
  obtain ⟨R, hR⟩ : ∃ R, R = (r.gotA o_size o_now).2 := ⟨_, rfl⟩
  have ha : Pt.after s ⟨o_kind, ⟨c1, c2, c3, c4, c5, c6, c7⟩, o_n, o_size, o_now⟩ = S := by unfold Pt.after; rw [if_neg (show ¬ o_kind = 2 from k2)]; rw [if_neg (show ¬ o_kind = 3 from k3)]; rw [if_neg (show ¬ o_kind = 4 from k4)]; rw [if_pos (show o_kind = 5 from k5)]; exact hS.symm
  have hy : Pt.says s ⟨o_kind, ⟨c1, c2, c3, c4, c5, c6, c7⟩, o_n, o_size, o_now⟩ = ⟨0, 0, false, (s.gotA o_size o_now).1, S.size, S.state⟩ := by unfold Pt.says; rw [ha]; rw [if_neg (show ¬ o_kind = 2 from k2)]; rw [if_neg (show ¬ o_kind = 3 from k3)]; rw [if_neg (show ¬ o_kind = 4 from k4)]; rw [if_pos (show o_kind = 5 from k5)]
  rw [ha, hy]
  clear ha hy
  have HSR : Hid (Sim S R) := Lib.hid (by rw [hS, hR]; exact (hs.out.gotA hb o_size o_now).1)
  have HRB : Hid (Rb R) := Lib.hid (by rw [hR]; exact (hs.out.gotA hb o_size o_now).2.2)
  have HS := Lib.hid hS
  have HR := Lib.hid hR
  clear hS hR
  have hK1 : K ≤ 1125899906842624 := by omega
  have hg0 := h.lt
  have hn1 : ¬ w.heap.size + 1 = g := by omega
  have hn2 : ¬ w.heap.size + 2 = g := by omega
  have hm1 : ¬ g = w.heap.size + 1 := by omega
  have hm2 : ¬ g = w.heap.size + 2 := by omega
  have H := Lib.hid h; clear h
  have k2_t : (o_kind == 2) = false := beq_eq_false_iff_ne.2 k2
  have k2_u : (o_kind != 2) = true := bne_iff_ne.2 k2
  clear k2
  have k3_t : (o_kind == 3) = false := beq_eq_false_iff_ne.2 k3
  have k3_u : (o_kind != 3) = true := bne_iff_ne.2 k3
  clear k3
  have k4_t : (o_kind == 4) = false := beq_eq_false_iff_ne.2 k4
  have k4_u : (o_kind != 4) = true := bne_iff_ne.2 k4
  clear k4
  have k5_t : (o_kind == 5) = true := beq_iff_eq.2 k5
  have k5_u : (o_kind != 5) = false := bne_eq_false_iff_eq.2 k5
  clear k5
  go_enter Try.func13, Try.ntmps13
  go_wp2_with (first | (go_at_call 33; (with_reducible refine (rgot_sim K s r g _ _ _ ?qis hs.out hi hb hK1).mono ?_); (case qis => apply ris_of (w := w); (repeat (with_reducible first | exact Put.refl H.out | apply Put.drewN | apply Put.drew | apply Put.alloc | (apply Put.far2 hg0; (case hp => simp <;> omega)))); rfl); rintro e w1 ⟨rfl, hp1⟩; rw [← HR.out] at hp1; have hz_w1 : w.heap.size + 2 < w1.heap.size := (by have h_ := hp1.size; simp at h_; omega); have hp1c1 := hp1.cell_other (w.heap.size + 1) (by simp <;> omega) hn1; have hp1c2 := hp1.cell_other (w.heap.size + 2) (by simp <;> omega) hn2; have hp1f1 := hp1.frozen_other (w.heap.size + 1) (by simp <;> omega) hn1; have hp1f2 := hp1.frozen_other (w.heap.size + 2) (by simp <;> omega) hn2) | (go_at_call 35; (with_reducible refine (rsize_sim S R g _ ?qis HSR.out).mono ?_); (case qis => apply ris_of (w := w); (repeat (with_reducible first | apply Put.after hp1 | exact Put.refl H.out | apply Put.drewN | apply Put.drew | apply Put.alloc | (apply Put.far2 hg0; (case hp => simp <;> omega)))); rfl); rintro e w2 ⟨rfl, hp2⟩; have hz_w2 : w.heap.size + 2 < w2.heap.size := (by have h_ := hp2.size; simp at h_; omega); have hp2c1 := hp2.cell_other (w.heap.size + 1) (by simp <;> omega) hn1; have hp2c2 := hp2.cell_other (w.heap.size + 2) (by simp <;> omega) hn2; have hp2f1 := hp2.frozen_other (w.heap.size + 1) (by simp <;> omega) hn1; have hp2f2 := hp2.frozen_other (w.heap.size + 2) (by simp <;> omega) hn2) | (go_at_call 36; (with_reducible refine (rstate_sim S R g _ ?qis HSR.out).mono ?_); (case qis => apply ris_of (w := w); (repeat (with_reducible first | apply Put.after hp2 | apply Put.after hp1 | exact Put.refl H.out | apply Put.drewN | apply Put.drew | apply Put.alloc | (apply Put.far2 hg0; (case hp => simp <;> omega)))); rfl); rintro e w3 ⟨rfl, hp3⟩; have hz_w3 : w.heap.size + 2 < w3.heap.size := (by have h_ := hp3.size; simp at h_; omega); have hp3c1 := hp3.cell_other (w.heap.size + 1) (by simp <;> omega) hn1; have hp3c2 := hp3.cell_other (w.heap.size + 2) (by simp <;> omega) hn2; have hp3f1 := hp3.frozen_other (w.heap.size + 1) (by simp <;> omega) hn1; have hp3f2 := hp3.frozen_other (w.heap.size + 2) (by simp <;> omega) hn2))
  exact bodyPost_ret (v := (Ans.val (⟨0, 0, false, (s.gotA o_size o_now).1, S.size, S.state⟩ : Ans))) (by simp [results, Try.results13, go_sem, Ans.val, hp3c1, hp2c1, hp1c1]) rfl ⟨R, rfl, HSR.out, HRB.out, by (repeat (with_reducible first | apply Put.after hp3 | apply Put.after hp2 | apply Put.after hp1 | exact Put.refl H.out | apply Put.drewN | apply Put.drew | apply Put.alloc | (apply Put.far2 hg0; (case hp => simp <;> omega))))⟩
set_option maxRecDepth 100000 in
set_option maxHeartbeats 4000000 in
theorem must_6 (K : Int) (s : Pt) (r : Rt) (g : Nat) (o_kind o_n o_size o_now c1 c2 c3 c4 c5 c6 c7 : Int) (k2 : ¬ o_kind = 2) (k3 : ¬ o_kind = 3) (k4 : ¬ o_kind = 4) (k5 : ¬ o_kind = 5) (k6 : o_kind = 6) (w : World) (h : Ri w g r) (hs : Hid (Sim s r)) (hi : Inv K s) (hb : Rb r) (hK : K + 1 ≤ 1125899906842624) :
    Calls Try.prog 13 #[.pointer (some ⟨g, 0, none⟩), .agg #[.int .i64 o_kind, .int .i64 c1, .int .i64 c2, .int .i64 c3, .int .i64 c4, .int .i64 c5, .int .i64 c6, .int .i64 c7, .int .i64 o_n, .int .i64 o_size, .int .i64 o_now]] w fun e w' => ∃ r2 : Rt, e = .returned (Pt.says s ⟨o_kind, ⟨c1, c2, c3, c4, c5, c6, c7⟩, o_n, o_size, o_now⟩).val ∧ Sim (Pt.after s ⟨o_kind, ⟨c1, c2, c3, c4, c5, c6, c7⟩, o_n, o_size, o_now⟩) r2 ∧ Rb r2 ∧ Put w w' g 70 r2.cells := by
  obtain ⟨S, hS⟩ : ∃ S, S = (s.lostA o_size o_now).2 := ⟨_, rfl⟩
  obtain ⟨R, hR⟩ : ∃ R, R = (r.lostA o_size o_now).2 := ⟨_, rfl⟩
  have ha : Pt.after s ⟨o_kind, ⟨c1, c2, c3, c4, c5, c6, c7⟩, o_n, o_size, o_now⟩ = S := by unfold Pt.after; rw [if_neg (show ¬ o_kind = 2 from k2)]; rw [if_neg (show ¬ o_kind = 3 from k3)]; rw [if_neg (show ¬ o_kind = 4 from k4)]; rw [if_neg (show ¬ o_kind = 5 from k5)]; rw [if_pos (show o_kind = 6 from k6)]; exact hS.symm
  have hy : Pt.says s ⟨o_kind, ⟨c1, c2, c3, c4, c5, c6, c7⟩, o_n, o_size, o_now⟩ = ⟨0, 0, (s.lostA o_size o_now).1.1, (s.lostA o_size o_now).1.2, S.size, S.state⟩ := by unfold Pt.says; rw [ha]; rw [if_neg (show ¬ o_kind = 2 from k2)]; rw [if_neg (show ¬ o_kind = 3 from k3)]; rw [if_neg (show ¬ o_kind = 4 from k4)]; rw [if_neg (show ¬ o_kind = 5 from k5)]; rw [if_pos (show o_kind = 6 from k6)]
  rw [ha, hy]
  clear ha hy
  have HSR : Hid (Sim S R) := Lib.hid (by rw [hS, hR]; exact (hs.out.lostA hb o_size o_now).1)
  have HRB : Hid (Rb R) := Lib.hid (by rw [hR]; exact (hs.out.lostA hb o_size o_now).2.2)
  have HS := Lib.hid hS
  have HR := Lib.hid hR
  clear hS hR
  have hK1 : K ≤ 1125899906842624 := by omega
  have hg0 := h.lt
  have hn1 : ¬ w.heap.size + 1 = g := by omega
  have hn2 : ¬ w.heap.size + 2 = g := by omega
  have hm1 : ¬ g = w.heap.size + 1 := by omega
  have hm2 : ¬ g = w.heap.size + 2 := by omega
  have H := Lib.hid h; clear h
  have k2_t : (o_kind == 2) = false := beq_eq_false_iff_ne.2 k2
  have k2_u : (o_kind != 2) = true := bne_iff_ne.2 k2
  clear k2
  have k3_t : (o_kind == 3) = false := beq_eq_false_iff_ne.2 k3
  have k3_u : (o_kind != 3) = true := bne_iff_ne.2 k3
  clear k3
  have k4_t : (o_kind == 4) = false := beq_eq_false_iff_ne.2 k4
  have k4_u : (o_kind != 4) = true := bne_iff_ne.2 k4
  clear k4
  have k5_t : (o_kind == 5) = false := beq_eq_false_iff_ne.2 k5
  have k5_u : (o_kind != 5) = true := bne_iff_ne.2 k5
  clear k5
  have k6_t : (o_kind == 6) = true := beq_iff_eq.2 k6
  have k6_u : (o_kind != 6) = false := bne_eq_false_iff_eq.2 k6
  clear k6
  go_enter Try.func13, Try.ntmps13
  go_wp2_with (first | (go_at_call 34; (with_reducible refine (rlost_sim K s r g _ _ _ ?qis hs.out hi hb hK1).mono ?_); (case qis => apply ris_of (w := w); (repeat (with_reducible first | exact Put.refl H.out | apply Put.drewN | apply Put.drew | apply Put.alloc | (apply Put.far2 hg0; (case hp => simp <;> omega)))); rfl); rintro e w1 ⟨rfl, hp1⟩; rw [← HR.out] at hp1; have hz_w1 : w.heap.size + 2 < w1.heap.size := (by have h_ := hp1.size; simp at h_; omega); have hp1c1 := hp1.cell_other (w.heap.size + 1) (by simp <;> omega) hn1; have hp1c2 := hp1.cell_other (w.heap.size + 2) (by simp <;> omega) hn2; have hp1f1 := hp1.frozen_other (w.heap.size + 1) (by simp <;> omega) hn1; have hp1f2 := hp1.frozen_other (w.heap.size + 2) (by simp <;> omega) hn2) | (go_at_call 35; (with_reducible refine (rsize_sim S R g _ ?qis HSR.out).mono ?_); (case qis => apply ris_of (w := w); (repeat (with_reducible first | apply Put.after hp1 | exact Put.refl H.out | apply Put.drewN | apply Put.drew | apply Put.alloc | (apply Put.far2 hg0; (case hp => simp <;> omega)))); rfl); rintro e w2 ⟨rfl, hp2⟩; have hz_w2 : w.heap.size + 2 < w2.heap.size := (by have h_ := hp2.size; simp at h_; omega); have hp2c1 := hp2.cell_other (w.heap.size + 1) (by simp <;> omega) hn1; have hp2c2 := hp2.cell_other (w.heap.size + 2) (by simp <;> omega) hn2; have hp2f1 := hp2.frozen_other (w.heap.size + 1) (by simp <;> omega) hn1; have hp2f2 := hp2.frozen_other (w.heap.size + 2) (by simp <;> omega) hn2) | (go_at_call 36; (with_reducible refine (rstate_sim S R g _ ?qis HSR.out).mono ?_); (case qis => apply ris_of (w := w); (repeat (with_reducible first | apply Put.after hp2 | apply Put.after hp1 | exact Put.refl H.out | apply Put.drewN | apply Put.drew | apply Put.alloc | (apply Put.far2 hg0; (case hp => simp <;> omega)))); rfl); rintro e w3 ⟨rfl, hp3⟩; have hz_w3 : w.heap.size + 2 < w3.heap.size := (by have h_ := hp3.size; simp at h_; omega); have hp3c1 := hp3.cell_other (w.heap.size + 1) (by simp <;> omega) hn1; have hp3c2 := hp3.cell_other (w.heap.size + 2) (by simp <;> omega) hn2; have hp3f1 := hp3.frozen_other (w.heap.size + 1) (by simp <;> omega) hn1; have hp3f2 := hp3.frozen_other (w.heap.size + 2) (by simp <;> omega) hn2))
  exact bodyPost_ret (v := (Ans.val (⟨0, 0, (s.lostA o_size o_now).1.1, (s.lostA o_size o_now).1.2, S.size, S.state⟩ : Ans))) (by simp [results, Try.results13, go_sem, Ans.val, hp3c1, hp2c1, hp1c1]) rfl ⟨R, rfl, HSR.out, HRB.out, by (repeat (with_reducible first | apply Put.after hp3 | apply Put.after hp2 | apply Put.after hp1 | exact Put.refl H.out | apply Put.drewN | apply Put.drew | apply Put.alloc | (apply Put.far2 hg0; (case hp => simp <;> omega))))⟩
set_option maxRecDepth 100000 in
set_option maxHeartbeats 4000000 in
theorem must_0 (K : Int) (s : Pt) (r : Rt) (g : Nat) (o_kind o_n o_size o_now c1 c2 c3 c4 c5 c6 c7 : Int) (k2 : ¬ o_kind = 2) (k3 : ¬ o_kind = 3) (k4 : ¬ o_kind = 4) (k5 : ¬ o_kind = 5) (k6 : ¬ o_kind = 6) (w : World) (h : Ri w g r) (hs : Hid (Sim s r)) (hi : Inv K s) (hb : Rb r) (hK : K + 1 ≤ 1125899906842624) :
    Calls Try.prog 13 #[.pointer (some ⟨g, 0, none⟩), .agg #[.int .i64 o_kind, .int .i64 c1, .int .i64 c2, .int .i64 c3, .int .i64 c4, .int .i64 c5, .int .i64 c6, .int .i64 c7, .int .i64 o_n, .int .i64 o_size, .int .i64 o_now]] w fun e w' => ∃ r2 : Rt, e = .returned (Pt.says s ⟨o_kind, ⟨c1, c2, c3, c4, c5, c6, c7⟩, o_n, o_size, o_now⟩).val ∧ Sim (Pt.after s ⟨o_kind, ⟨c1, c2, c3, c4, c5, c6, c7⟩, o_n, o_size, o_now⟩) r2 ∧ Rb r2 ∧ Put w w' g 70 r2.cells := by
  have ha : Pt.after s ⟨o_kind, ⟨c1, c2, c3, c4, c5, c6, c7⟩, o_n, o_size, o_now⟩ = s := by unfold Pt.after; rw [if_neg (show ¬ o_kind = 2 from k2)]; rw [if_neg (show ¬ o_kind = 3 from k3)]; rw [if_neg (show ¬ o_kind = 4 from k4)]; rw [if_neg (show ¬ o_kind = 5 from k5)]; rw [if_neg (show ¬ o_kind = 6 from k6)]
  have hy : Pt.says s ⟨o_kind, ⟨c1, c2, c3, c4, c5, c6, c7⟩, o_n, o_size, o_now⟩ = ⟨0, 0, false, 0, s.size, s.state⟩ := by unfold Pt.says; rw [ha]; rw [if_neg (show ¬ o_kind = 2 from k2)]; rw [if_neg (show ¬ o_kind = 3 from k3)]; rw [if_neg (show ¬ o_kind = 4 from k4)]; rw [if_neg (show ¬ o_kind = 5 from k5)]; rw [if_neg (show ¬ o_kind = 6 from k6)]
  rw [ha, hy]
  clear ha hy
  have HSR : Hid (Sim s r) := hs
  have HRB : Hid (Rb r) := Lib.hid hb
  have hK1 : K ≤ 1125899906842624 := by omega
  have hg0 := h.lt
  have hn1 : ¬ w.heap.size + 1 = g := by omega
  have hn2 : ¬ w.heap.size + 2 = g := by omega
  have hm1 : ¬ g = w.heap.size + 1 := by omega
  have hm2 : ¬ g = w.heap.size + 2 := by omega
  have H := Lib.hid h; clear h
  have k2_t : (o_kind == 2) = false := beq_eq_false_iff_ne.2 k2
  have k2_u : (o_kind != 2) = true := bne_iff_ne.2 k2
  clear k2
  have k3_t : (o_kind == 3) = false := beq_eq_false_iff_ne.2 k3
  have k3_u : (o_kind != 3) = true := bne_iff_ne.2 k3
  clear k3
  have k4_t : (o_kind == 4) = false := beq_eq_false_iff_ne.2 k4
  have k4_u : (o_kind != 4) = true := bne_iff_ne.2 k4
  clear k4
  have k5_t : (o_kind == 5) = false := beq_eq_false_iff_ne.2 k5
  have k5_u : (o_kind != 5) = true := bne_iff_ne.2 k5
  clear k5
  have k6_t : (o_kind == 6) = false := beq_eq_false_iff_ne.2 k6
  have k6_u : (o_kind != 6) = true := bne_iff_ne.2 k6
  clear k6
  go_enter Try.func13, Try.ntmps13
  go_wp2_with (first | (go_at_call 35; (with_reducible refine (rsize_sim s r g _ ?qis HSR.out).mono ?_); (case qis => apply ris_of (w := w); (repeat (with_reducible first | exact Put.refl H.out | apply Put.drewN | apply Put.drew | apply Put.alloc | (apply Put.far2 hg0; (case hp => simp <;> omega)))); rfl); rintro e w2 ⟨rfl, hp2⟩; have hz_w2 : w.heap.size + 2 < w2.heap.size := (by have h_ := hp2.size; simp at h_; omega); have hp2c1 := hp2.cell_other (w.heap.size + 1) (by simp <;> omega) hn1; have hp2c2 := hp2.cell_other (w.heap.size + 2) (by simp <;> omega) hn2; have hp2f1 := hp2.frozen_other (w.heap.size + 1) (by simp <;> omega) hn1; have hp2f2 := hp2.frozen_other (w.heap.size + 2) (by simp <;> omega) hn2) | (go_at_call 36; (with_reducible refine (rstate_sim s r g _ ?qis HSR.out).mono ?_); (case qis => apply ris_of (w := w); (repeat (with_reducible first | apply Put.after hp2 | exact Put.refl H.out | apply Put.drewN | apply Put.drew | apply Put.alloc | (apply Put.far2 hg0; (case hp => simp <;> omega)))); rfl); rintro e w3 ⟨rfl, hp3⟩; have hz_w3 : w.heap.size + 2 < w3.heap.size := (by have h_ := hp3.size; simp at h_; omega); have hp3c1 := hp3.cell_other (w.heap.size + 1) (by simp <;> omega) hn1; have hp3c2 := hp3.cell_other (w.heap.size + 2) (by simp <;> omega) hn2; have hp3f1 := hp3.frozen_other (w.heap.size + 1) (by simp <;> omega) hn1; have hp3f2 := hp3.frozen_other (w.heap.size + 2) (by simp <;> omega) hn2))
  exact bodyPost_ret (v := (Ans.val (⟨0, 0, false, 0, s.size, s.state⟩ : Ans))) (by simp [results, Try.results13, go_sem, Ans.val, hp3c1, hp2c1]) rfl ⟨r, rfl, HSR.out, HRB.out, by (repeat (with_reducible first | apply Put.after hp3 | apply Put.after hp2 | exact Put.refl H.out | apply Put.drewN | apply Put.drew | apply Put.alloc | (apply Put.far2 hg0; (case hp => simp <;> omega))))⟩
theorem must_any (K : Int) (s : Pt) (r : Rt) (g : Nat) (o : Op) (w : World) (h : Ri w g r) (hs : Sim s r) (hi : Inv K s) (hb : Rb r) (hK : K + 1 ≤ 1125899906842624) :
    Calls Try.prog 13 #[.pointer (some ⟨g, 0, none⟩), o.val] w fun e w' => ∃ r2 : Rt, e = .returned (s.says o).val ∧ Sim (s.after o) r2 ∧ Rb r2 ∧ Put w w' g 70 r2.cells := by
  have hs := Lib.hid hs
  obtain ⟨k, ⟨c1, c2, c3, c4, c5, c6, c7⟩, n, z, t⟩ := o
  by_cases k2 : k = 2
  · exact must_2 K s r g k n z t c1 c2 c3 c4 c5 c6 c7 k2 w h hs hi hb hK
  by_cases k3 : k = 3
  · exact must_3 K s r g k n z t c1 c2 c3 c4 c5 c6 c7 k2 k3 w h hs hi hb hK
  by_cases k4 : k = 4
  · exact must_4 K s r g k n z t c1 c2 c3 c4 c5 c6 c7 k2 k3 k4 w h hs hi hb hK
  by_cases k5 : k = 5
  · exact must_5 K s r g k n z t c1 c2 c3 c4 c5 c6 c7 k2 k3 k4 k5 w h hs hi hb hK
  by_cases k6 : k = 6
  · exact must_6 K s r g k n z t c1 c2 c3 c4 c5 c6 c7 k2 k3 k4 k5 k6 w h hs hi hb hK
  exact must_0 K s r g k n z t c1 c2 c3 c4 c5 c6 c7 k2 k3 k4 k5 k6 w h hs hi hb hK
end Go.Proofs.Ytmanojnhjhpokaa.PB
