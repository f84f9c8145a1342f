/- Contract of the statements' own call of a path (does). Conditions: the path lies in one block that is known whole, the invariant holds, fewer than 2^50 numbers were given. -/
import Derived.Test.YtmanojnhjhpokaaPJ
import Derived.Test.YtmanojnhjhpokaaPX
namespace Go.Proofs.Ytmanojnhjhpokaa.PB
set_option linter.unusedVariables false
set_option linter.unusedSimpArgs false
open Go.RowKit
theorem Put.cell_other {w w' : World} {g : Nat} {t : TypeId} {cs : Array Value} (h : Put w w' g t cs) (b : Nat) (hb : b < w.heap.size) (hne : ¬ b = g) : ∀ i, w'.cell? ⟨b, i, none⟩ = w.cell? ⟨b, i, none⟩ := fun i => World.cell?_of_block (a := ⟨b, i, none⟩) (h.rest b hb hne)
theorem Put.frozen_other {w w' : World} {g : Nat} {t : TypeId} {cs : Array Value} (h : Put w w' g t cs) (b : Nat) (hb : b < w.heap.size) (hne : ¬ b = g) : ∀ i, w'.frozen? ⟨b, i, none⟩ = w.frozen? ⟨b, i, none⟩ := fun i => by
  simp [World.frozen?, h.rest b hb hne]
theorem Put.far2 {w w1 : World} {g : Nat} {t : TypeId} {cs : Array Value} {p : Addr} {u : Value} (hg : g < w.heap.size) (hp : w.heap.size ≤ p.block) (h : Put w w1 g t cs) : Put w (w1.setCell p u) g t cs := h.far hp hg u
/-- A call: New(C), Next(Now), .. -/
structure Op where
  kind : Int
  c : Cfg
  n : Int
  size : Int
  now : Int
def Op.val (o : Op) : Value := .agg #[.int .i64 o.kind, .int .i64 o.c.v, .int .i64 o.c.base, .int .i64 o.c.most, .int .i64 o.c.tries, .int .i64 o.c.losses, .int .i64 o.c.wait, .int .i64 o.c.raise, .int .i64 o.n, .int .i64 o.size, .int .i64 o.now]
structure Ans where
  a : Int
  b : Int
  yes : Bool
  e : Int
  size : Int
  st : Int
def Ans.val (x : Ans) : Value := .agg #[.int .i64 x.a, .int .i64 x.b, .bool x.yes, .int .i64 x.e, .int .i64 x.size, .int .i64 x.st]
def Pt.after (s : Pt) (o : Op) : Pt :=
  if o.kind = 2 then (s.nextA o.now).2 else if o.kind = 3 then (s.ackedA o.n o.now).2 else if o.kind = 4 then (s.tooBigA o.n o.size o.now).2 else if o.kind = 5 then (s.gotA o.size o.now).2 else if o.kind = 6 then (s.lostA o.size o.now).2 else s
def Pt.says (s : Pt) (o : Op) : Ans :=
  if o.kind = 2 then ⟨(s.nextA o.now).1.1, (s.nextA o.now).1.2.1, false, (s.nextA o.now).1.2.2, (s.after o).size, (s.after o).state⟩
  else if o.kind = 3 then ⟨0, 0, (s.ackedA o.n o.now).1.1, (s.ackedA o.n o.now).1.2, (s.after o).size, (s.after o).state⟩
  else if o.kind = 4 then ⟨0, 0, (s.tooBigA o.n o.size o.now).1.1, (s.tooBigA o.n o.size o.now).1.2, (s.after o).size, (s.after o).state⟩
  else if o.kind = 5 then ⟨0, 0, false, (s.gotA o.size o.now).1, (s.after o).size, (s.after o).state⟩
  else if o.kind = 6 then ⟨0, 0, (s.lostA o.size o.now).1.1, (s.lostA o.size o.now).1.2, (s.after o).size, (s.after o).state⟩
  else ⟨0, 0, false, 0, (s.after o).size, (s.after o).state⟩
set_option maxRecDepth 100000 in
set_option maxHeartbeats 4000000 in
theorem does_2 (K : Int) (s : Pt) (g : Nat) (o_kind o_n o_size o_now c1 c2 c3 c4 c5 c6 c7 : Int) (k2 : o_kind = 2) (w : World) (h : Is w g s) (hi : Inv K s) (hK : K + 1 ≤ 1125899906842624) :
    Calls Try.prog 12 #[.pointer (some ⟨g, 0, none⟩), .agg #[.int .i64 o_kind, .int .i64 c1, .int .i64 c2, .int .i64 c3, .int .i64 c4, .int .i64 c5, .int .i64 c6, .int .i64 c7, .int .i64 o_n, .int .i64 o_size, .int .i64 o_now]] w fun e w' => e = .returned (Pt.says s ⟨o_kind, ⟨c1, c2, c3, c4, c5, c6, c7⟩, o_n, o_size, o_now⟩).val ∧ Put w w' g 66 (Pt.after s ⟨o_kind, ⟨c1, c2, c3, c4, c5, c6, c7⟩, o_n, o_size, o_now⟩).cells := by
  obtain ⟨S, hS⟩ : ∃ S, S = (s.nextA o_now).2 := ⟨_, rfl⟩
  have ha : Pt.after s ⟨o_kind, ⟨c1, c2, c3, c4, c5, c6, c7⟩, o_n, o_size, o_now⟩ = S := by unfold Pt.after; rw [if_pos (show o_kind = 2 from k2)]; exact hS.symm
  have hs : Pt.says s ⟨o_kind, ⟨c1, c2, c3, c4, c5, c6, c7⟩, o_n, o_size, o_now⟩ = ⟨(s.nextA o_now).1.1, (s.nextA o_now).1.2.1, false, (s.nextA o_now).1.2.2, S.size, S.state⟩ := by unfold Pt.says; rw [ha]; rw [if_pos (show o_kind = 2 from k2)]
  rw [ha, hs]
  clear ha hs
  have HS := Lib.hid hS
  clear hS
  have hK1 : K ≤ 1125899906842624 := by omega
  have hg0 := h.lt
  have hn1 : ¬ w.heap.size + 1 = g := by omega
  have hn2 : ¬ w.heap.size + 2 = g := by omega
  have hm1 : ¬ g = w.heap.size + 1 := by omega
  have hm2 : ¬ g = w.heap.size + 2 := by omega
  have H := Lib.hid h; clear h
  have k2_t : (o_kind == 2) = true := beq_iff_eq.2 k2
  have k2_u : (o_kind != 2) = false := bne_eq_false_iff_eq.2 k2
  clear k2
  go_enter Try.func12, Try.ntmps12
  go_wp2_with (first | (go_at_call 22; (with_reducible refine (next_any K s g _ _ ?qis hi hK).mono ?_); (case qis => apply is_of (w := w); (repeat (with_reducible first | exact Put.refl H.out | apply Put.drewN | apply Put.drew | apply Put.alloc | (apply Put.far2 hg0; (case hp => simp <;> omega)))); rfl); rintro e w1 ⟨rfl, hp1⟩; rw [← HS.out] at hp1; have hz_w1 : w.heap.size + 2 < w1.heap.size := (by have h_ := hp1.size; simp at h_; omega); have hp1c1 := hp1.cell_other (w.heap.size + 1) (by simp <;> omega) hn1; have hp1c2 := hp1.cell_other (w.heap.size + 2) (by simp <;> omega) hn2; have hp1f1 := hp1.frozen_other (w.heap.size + 1) (by simp <;> omega) hn1; have hp1f2 := hp1.frozen_other (w.heap.size + 2) (by simp <;> omega) hn2) | (go_at_call 15; (with_reducible refine (size_calls S g _ ?qis).mono ?_); (case qis => apply is_of (w := w); (repeat (with_reducible first | apply Put.after hp1 | exact Put.refl H.out | apply Put.drewN | apply Put.drew | apply Put.alloc | (apply Put.far2 hg0; (case hp => simp <;> omega)))); rfl); rintro e w2 ⟨rfl, hp2⟩; have hz_w2 : w.heap.size + 2 < w2.heap.size := (by have h_ := hp2.size; simp at h_; omega); have hp2c1 := hp2.cell_other (w.heap.size + 1) (by simp <;> omega) hn1; have hp2c2 := hp2.cell_other (w.heap.size + 2) (by simp <;> omega) hn2; have hp2f1 := hp2.frozen_other (w.heap.size + 1) (by simp <;> omega) hn1; have hp2f2 := hp2.frozen_other (w.heap.size + 2) (by simp <;> omega) hn2) | (go_at_call 14; (with_reducible refine (state_calls S g _ ?qis).mono ?_); (case qis => apply is_of (w := w); (repeat (with_reducible first | apply Put.after hp2 | apply Put.after hp1 | exact Put.refl H.out | apply Put.drewN | apply Put.drew | apply Put.alloc | (apply Put.far2 hg0; (case hp => simp <;> omega)))); rfl); rintro e w3 ⟨rfl, hp3⟩; have hz_w3 : w.heap.size + 2 < w3.heap.size := (by have h_ := hp3.size; simp at h_; omega); have hp3c1 := hp3.cell_other (w.heap.size + 1) (by simp <;> omega) hn1; have hp3c2 := hp3.cell_other (w.heap.size + 2) (by simp <;> omega) hn2; have hp3f1 := hp3.frozen_other (w.heap.size + 1) (by simp <;> omega) hn1; have hp3f2 := hp3.frozen_other (w.heap.size + 2) (by simp <;> omega) hn2))
  exact bodyPost_ret (v := (Ans.val (⟨(s.nextA o_now).1.1, (s.nextA o_now).1.2.1, false, (s.nextA o_now).1.2.2, S.size, S.state⟩ : Ans))) (by simp [results, Try.results12, go_sem, Ans.val, hp3c1, hp2c1, hp1c1]) rfl ⟨rfl, by (repeat (with_reducible first | apply Put.after hp3 | apply Put.after hp2 | apply Put.after hp1 | exact Put.refl H.out | apply Put.drewN | apply Put.drew | apply Put.alloc | (apply Put.far2 hg0; (case hp => simp <;> omega))))⟩
set_option maxRecDepth 100000 in
set_option maxHeartbeats 4000000 in
theorem does_3 (K : Int) (s : Pt) (g : Nat) (o_kind o_n o_size o_now c1 c2 c3 c4 c5 c6 c7 : Int) (k2 : ¬ o_kind = 2) (k3 : o_kind = 3) (w : World) (h : Is w g s) (hi : Inv K s) (hK : K + 1 ≤ 1125899906842624) :
    Calls Try.prog 12 #[.pointer (some ⟨g, 0, none⟩), .agg #[.int .i64 o_kind, .int .i64 c1, .int .i64 c2, .int .i64 c3, .int .i64 c4, .int .i64 c5, .int .i64 c6, .int .i64 c7, .int .i64 o_n, .int .i64 o_size, .int .i64 o_now]] w fun e w' => e = .returned (Pt.says s ⟨o_kind, ⟨c1, c2, c3, c4, c5, c6, c7⟩, o_n, o_size, o_now⟩).val ∧ Put w w' g 66 (Pt.after s ⟨o_kind, ⟨c1, c2, c3, c4, c5, c6, c7⟩, o_n, o_size, o_now⟩).cells := by
  obtain ⟨S, hS⟩ : ∃ S, S = (s.ackedA o_n o_now).2 := ⟨_, rfl⟩
  have ha : Pt.after s ⟨o_kind, ⟨c1, c2, c3, c4, c5, c6, c7⟩, o_n, o_size, o_now⟩ = S := by unfold Pt.after; rw [if_neg (show ¬ o_kind = 2 from k2)]; rw [if_pos (show o_kind = 3 from k3)]; exact hS.symm
  have hs : Pt.says s ⟨o_kind, ⟨c1, c2, c3, c4, c5, c6, c7⟩, o_n, o_size, o_now⟩ = ⟨0, 0, (s.ackedA o_n o_now).1.1, (s.ackedA o_n o_now).1.2, S.size, S.state⟩ := by unfold Pt.says; rw [ha]; rw [if_neg (show ¬ o_kind = 2 from k2)]; rw [if_pos (show o_kind = 3 from k3)]
  rw [ha, hs]
  clear ha hs
  have HS := Lib.hid hS
  clear hS
  have hK1 : K ≤ 1125899906842624 := by omega
  have hg0 := h.lt
  have hn1 : ¬ w.heap.size + 1 = g := by omega
  have hn2 : ¬ w.heap.size + 2 = g := by omega
  have hm1 : ¬ g = w.heap.size + 1 := by omega
  have hm2 : ¬ g = w.heap.size + 2 := by omega
  have H := Lib.hid h; clear h
  have k2_t : (o_kind == 2) = false := beq_eq_false_iff_ne.2 k2
  have k2_u : (o_kind != 2) = true := bne_iff_ne.2 k2
  clear k2
  have k3_t : (o_kind == 3) = true := beq_iff_eq.2 k3
  have k3_u : (o_kind != 3) = false := bne_eq_false_iff_eq.2 k3
  clear k3
  go_enter Try.func12, Try.ntmps12
  go_wp2_with (first | (go_at_call 28; (with_reducible refine (acked_any K s g _ _ _ ?qis hi hK1).mono ?_); (case qis => apply is_of (w := w); (repeat (with_reducible first | exact Put.refl H.out | apply Put.drewN | apply Put.drew | apply Put.alloc | (apply Put.far2 hg0; (case hp => simp <;> omega)))); rfl); rintro e w1 ⟨rfl, hp1⟩; rw [← HS.out] at hp1; have hz_w1 : w.heap.size + 2 < w1.heap.size := (by have h_ := hp1.size; simp at h_; omega); have hp1c1 := hp1.cell_other (w.heap.size + 1) (by simp <;> omega) hn1; have hp1c2 := hp1.cell_other (w.heap.size + 2) (by simp <;> omega) hn2; have hp1f1 := hp1.frozen_other (w.heap.size + 1) (by simp <;> omega) hn1; have hp1f2 := hp1.frozen_other (w.heap.size + 2) (by simp <;> omega) hn2) | (go_at_call 15; (with_reducible refine (size_calls S g _ ?qis).mono ?_); (case qis => apply is_of (w := w); (repeat (with_reducible first | apply Put.after hp1 | exact Put.refl H.out | apply Put.drewN | apply Put.drew | apply Put.alloc | (apply Put.far2 hg0; (case hp => simp <;> omega)))); rfl); rintro e w2 ⟨rfl, hp2⟩; have hz_w2 : w.heap.size + 2 < w2.heap.size := (by have h_ := hp2.size; simp at h_; omega); have hp2c1 := hp2.cell_other (w.heap.size + 1) (by simp <;> omega) hn1; have hp2c2 := hp2.cell_other (w.heap.size + 2) (by simp <;> omega) hn2; have hp2f1 := hp2.frozen_other (w.heap.size + 1) (by simp <;> omega) hn1; have hp2f2 := hp2.frozen_other (w.heap.size + 2) (by simp <;> omega) hn2) | (go_at_call 14; (with_reducible refine (state_calls S g _ ?qis).mono ?_); (case qis => apply is_of (w := w); (repeat (with_reducible first | apply Put.after hp2 | apply Put.after hp1 | exact Put.refl H.out | apply Put.drewN | apply Put.drew | apply Put.alloc | (apply Put.far2 hg0; (case hp => simp <;> omega)))); rfl); rintro e w3 ⟨rfl, hp3⟩; have hz_w3 : w.heap.size + 2 < w3.heap.size := (by have h_ := hp3.size; simp at h_; omega); have hp3c1 := hp3.cell_other (w.heap.size + 1) (by simp <;> omega) hn1; have hp3c2 := hp3.cell_other (w.heap.size + 2) (by simp <;> omega) hn2; have hp3f1 := hp3.frozen_other (w.heap.size + 1) (by simp <;> omega) hn1; have hp3f2 := hp3.frozen_other (w.heap.size + 2) (by simp <;> omega) hn2))
  exact bodyPost_ret (v := (Ans.val (⟨0, 0, (s.ackedA o_n o_now).1.1, (s.ackedA o_n o_now).1.2, S.size, S.state⟩ : Ans))) (by simp [results, Try.results12, go_sem, Ans.val, hp3c1, hp2c1, hp1c1]) rfl ⟨rfl, by (repeat (with_reducible first | apply Put.after hp3 | apply Put.after hp2 | apply Put.after hp1 | exact Put.refl H.out | apply Put.drewN | apply Put.drew | apply Put.alloc | (apply Put.far2 hg0; (case hp => simp <;> omega))))⟩
set_option maxRecDepth 100000 in
set_option maxHeartbeats 4000000 in
theorem does_4 (K : Int) (s : Pt) (g : Nat) (o_kind o_n o_size o_now c1 c2 c3 c4 c5 c6 c7 : Int) (k2 : ¬ o_kind = 2) (k3 : ¬ o_kind = 3) (k4 : o_kind = 4) (w : World) (h : Is w g s) (hi : Inv K s) (hK : K + 1 ≤ 1125899906842624) :
    Calls Try.prog 12 #[.pointer (some ⟨g, 0, none⟩), .agg #[.int .i64 o_kind, .int .i64 c1, .int .i64 c2, .int .i64 c3, .int .i64 c4, .int .i64 c5, .int .i64 c6, .int .i64 c7, .int .i64 o_n, .int .i64 o_size, .int .i64 o_now]] w fun e w' => e = .returned (Pt.says s ⟨o_kind, ⟨c1, c2, c3, c4, c5, c6, c7⟩, o_n, o_size, o_now⟩).val ∧ Put w w' g 66 (Pt.after s ⟨o_kind, ⟨c1, c2, c3, c4, c5, c6, c7⟩, o_n, o_size, o_now⟩).cells := by
  obtain ⟨S, hS⟩ : ∃ S, S = (s.tooBigA o_n o_size o_now).2 := ⟨_, rfl⟩
  have ha : Pt.after s ⟨o_kind, ⟨c1, c2, c3, c4, c5, c6, c7⟩, o_n, o_size, o_now⟩ = S := by unfold Pt.after; rw [if_neg (show ¬ o_kind = 2 from k2)]; rw [if_neg (show ¬ o_kind = 3 from k3)]; rw [if_pos (show o_kind = 4 from k4)]; exact hS.symm
  have hs : Pt.says s ⟨o_kind, ⟨c1, c2, c3, c4, c5, c6, c7⟩, o_n, o_size, o_now⟩ = ⟨0, 0, (s.tooBigA o_n o_size o_now).1.1, (s.tooBigA o_n o_size o_now).1.2, S.size, S.state⟩ := by unfold Pt.says; rw [ha]; rw [if_neg (show ¬ o_kind = 2 from k2)]; rw [if_neg (show ¬ o_kind = 3 from k3)]; rw [if_pos (show o_kind = 4 from k4)]
  rw [ha, hs]
  clear ha hs
  have HS := Lib.hid hS
  clear hS
  have hK1 : K ≤ 1125899906842624 := by omega
  have hg0 := h.lt
  have hn1 : ¬ w.heap.size + 1 = g := by omega
  have hn2 : ¬ w.heap.size + 2 = g := by omega
  have hm1 : ¬ g = w.heap.size + 1 := by omega
  have hm2 : ¬ g = w.heap.size + 2 := by omega
  have H := Lib.hid h; clear h
  have k2_t : (o_kind == 2) = false := beq_eq_false_iff_ne.2 k2
  have k2_u : (o_kind != 2) = true := bne_iff_ne.2 k2
  clear k2
  have k3_t : (o_kind == 3) = false := beq_eq_false_iff_ne.2 k3
  have k3_u : (o_kind != 3) = true := bne_iff_ne.2 k3
  clear k3
  have k4_t : (o_kind == 4) = true := beq_iff_eq.2 k4
  have k4_u : (o_kind != 4) = false := bne_eq_false_iff_eq.2 k4
  clear k4
  go_enter Try.func12, Try.ntmps12
  go_wp2_with (first | (go_at_call 29; (with_reducible refine (tooBig_any K s g _ _ _ _ ?qis hi hK1).mono ?_); (case qis => apply is_of (w := w); (repeat (with_reducible first | exact Put.refl H.out | apply Put.drewN | apply Put.drew | apply Put.alloc | (apply Put.far2 hg0; (case hp => simp <;> omega)))); rfl); rintro e w1 ⟨rfl, hp1⟩; rw [← HS.out] at hp1; have hz_w1 : w.heap.size + 2 < w1.heap.size := (by have h_ := hp1.size; simp at h_; omega); have hp1c1 := hp1.cell_other (w.heap.size + 1) (by simp <;> omega) hn1; have hp1c2 := hp1.cell_other (w.heap.size + 2) (by simp <;> omega) hn2; have hp1f1 := hp1.frozen_other (w.heap.size + 1) (by simp <;> omega) hn1; have hp1f2 := hp1.frozen_other (w.heap.size + 2) (by simp <;> omega) hn2) | (go_at_call 15; (with_reducible refine (size_calls S g _ ?qis).mono ?_); (case qis => apply is_of (w := w); (repeat (with_reducible first | apply Put.after hp1 | exact Put.refl H.out | apply Put.drewN | apply Put.drew | apply Put.alloc | (apply Put.far2 hg0; (case hp => simp <;> omega)))); rfl); rintro e w2 ⟨rfl, hp2⟩; have hz_w2 : w.heap.size + 2 < w2.heap.size := (by have h_ := hp2.size; simp at h_; omega); have hp2c1 := hp2.cell_other (w.heap.size + 1) (by simp <;> omega) hn1; have hp2c2 := hp2.cell_other (w.heap.size + 2) (by simp <;> omega) hn2; have hp2f1 := hp2.frozen_other (w.heap.size + 1) (by simp <;> omega) hn1; have hp2f2 := hp2.frozen_other (w.heap.size + 2) (by simp <;> omega) hn2) | (go_at_call 14; (with_reducible refine (state_calls S g _ ?qis).mono ?_); (case qis => apply is_of (w := w); (repeat (with_reducible first | apply Put.after hp2 | apply Put.after hp1 | exact Put.refl H.out | apply Put.drewN | apply Put.drew | apply Put.alloc | (apply Put.far2 hg0; (case hp => simp <;> omega)))); rfl); rintro e w3 ⟨rfl, hp3⟩; have hz_w3 : w.heap.size + 2 < w3.heap.size := (by have h_ := hp3.size; simp at h_; omega); have hp3c1 := hp3.cell_other (w.heap.size + 1) (by simp <;> omega) hn1; have hp3c2 := hp3.cell_other (w.heap.size + 2) (by simp <;> omega) hn2; have hp3f1 := hp3.frozen_other (w.heap.size + 1) (by simp <;> omega) hn1; have hp3f2 := hp3.frozen_other (w.heap.size + 2) (by simp <;> omega) hn2))
  exact bodyPost_ret (v := (Ans.val (⟨0, 0, (s.tooBigA o_n o_size o_now).1.1, (s.tooBigA o_n o_size o_now).1.2, S.size, S.state⟩ : Ans))) (by simp [results, Try.results12, go_sem, Ans.val, hp3c1, hp2c1, hp1c1]) rfl ⟨rfl, by (repeat (with_reducible first | apply Put.after hp3 | apply Put.after hp2 | apply Put.after hp1 | exact Put.refl H.out | apply Put.drewN | apply Put.drew | apply Put.alloc | (apply Put.far2 hg0; (case hp => simp <;> omega))))⟩
set_option maxRecDepth 100000 in
set_option maxHeartbeats 4000000 in
theorem does_5 (K : Int) (s : Pt) (g : Nat) (o_kind o_n o_size o_now c1 c2 c3 c4 c5 c6 c7 : Int) (k2 : ¬ o_kind = 2) (k3 : ¬ o_kind = 3) (k4 : ¬ o_kind = 4) (k5 : o_kind = 5) (w : World) (h : Is w g s) (hi : Inv K s) (hK : K + 1 ≤ 1125899906842624) :
    Calls Try.prog 12 #[.pointer (some ⟨g, 0, none⟩), .agg #[.int .i64 o_kind, .int .i64 c1, .int .i64 c2, .int .i64 c3, .int .i64 c4, .int .i64 c5, .int .i64 c6, .int .i64 c7, .int .i64 o_n, .int .i64 o_size, .int .i64 o_now]] w fun e w' => e = .returned (Pt.says s ⟨o_kind, ⟨c1, c2, c3, c4, c5, c6, c7⟩, o_n, o_size, o_now⟩).val ∧ Put w w' g 66 (Pt.after s ⟨o_kind, ⟨c1, c2, c3, c4, c5, c6, c7⟩, o_n, o_size, o_now⟩).cells := by
  obtain ⟨S, hS⟩ : ∃ S, S = (s.gotA o_size o_now).2 := ⟨_, rfl⟩
  have ha : Pt.after s ⟨o_kind, ⟨c1, c2, c3, c4, c5, c6, c7⟩, o_n, o_size, o_now⟩ = S := by unfold Pt.after; rw [if_neg (show ¬ o_kind = 2 from k2)]; rw [if_neg (show ¬ o_kind = 3 from k3)]; rw [if_neg (show ¬ o_kind = 4 from k4)]; rw [if_pos (show o_kind = 5 from k5)]; exact hS.symm
  have hs : Pt.says s ⟨o_kind, ⟨c1, c2, c3, c4, c5, c6, c7⟩, o_n, o_size, o_now⟩ = ⟨0, 0, false, (s.gotA o_size o_now).1, S.size, S.state⟩ := by unfold Pt.says; rw [ha]; rw [if_neg (show ¬ o_kind = 2 from k2)]; rw [if_neg (show ¬ o_kind = 3 from k3)]; rw [if_neg (show ¬ o_kind = 4 from k4)]; rw [if_pos (show o_kind = 5 from k5)]
  rw [ha, hs]
  clear ha hs
  have HS := Lib.hid hS
  clear hS
  have hK1 : K ≤ 1125899906842624 := by omega
  have hg0 := h.lt
  have hn1 : ¬ w.heap.size + 1 = g := by omega
  have hn2 : ¬ w.heap.size + 2 = g := by omega
  have hm1 : ¬ g = w.heap.size + 1 := by omega
  have hm2 : ¬ g = w.heap.size + 2 := by omega
  have H := Lib.hid h; clear h
  have k2_t : (o_kind == 2) = false := beq_eq_false_iff_ne.2 k2
  have k2_u : (o_kind != 2) = true := bne_iff_ne.2 k2
  clear k2
  have k3_t : (o_kind == 3) = false := beq_eq_false_iff_ne.2 k3
  have k3_u : (o_kind != 3) = true := bne_iff_ne.2 k3
  clear k3
  have k4_t : (o_kind == 4) = false := beq_eq_false_iff_ne.2 k4
  have k4_u : (o_kind != 4) = true := bne_iff_ne.2 k4
  clear k4
  have k5_t : (o_kind == 5) = true := beq_iff_eq.2 k5
  have k5_u : (o_kind != 5) = false := bne_eq_false_iff_eq.2 k5
  clear k5
  go_enter Try.func12, Try.ntmps12
  go_wp2_with (first | (go_at_call 24; (with_reducible refine (got_any K s g _ _ _ ?qis hi hK1).mono ?_); (case qis => apply is_of (w := w); (repeat (with_reducible first | exact Put.refl H.out | apply Put.drewN | apply Put.drew | apply Put.alloc | (apply Put.far2 hg0; (case hp => simp <;> omega)))); rfl); rintro e w1 ⟨rfl, hp1⟩; rw [← HS.out] at hp1; have hz_w1 : w.heap.size + 2 < w1.heap.size := (by have h_ := hp1.size; simp at h_; omega); have hp1c1 := hp1.cell_other (w.heap.size + 1) (by simp <;> omega) hn1; have hp1c2 := hp1.cell_other (w.heap.size + 2) (by simp <;> omega) hn2; have hp1f1 := hp1.frozen_other (w.heap.size + 1) (by simp <;> omega) hn1; have hp1f2 := hp1.frozen_other (w.heap.size + 2) (by simp <;> omega) hn2) | (go_at_call 15; (with_reducible refine (size_calls S g _ ?qis).mono ?_); (case qis => apply is_of (w := w); (repeat (with_reducible first | apply Put.after hp1 | exact Put.refl H.out | apply Put.drewN | apply Put.drew | apply Put.alloc | (apply Put.far2 hg0; (case hp => simp <;> omega)))); rfl); rintro e w2 ⟨rfl, hp2⟩; have hz_w2 : w.heap.size + 2 < w2.heap.size := (by have h_ := hp2.size; simp at h_; omega); have hp2c1 := hp2.cell_other (w.heap.size + 1) (by simp <;> omega) hn1; have hp2c2 := hp2.cell_other (w.heap.size + 2) (by simp <;> omega) hn2; have hp2f1 := hp2.frozen_other (w.heap.size + 1) (by simp <;> omega) hn1; have hp2f2 := hp2.frozen_other (w.heap.size + 2) (by simp <;> omega) hn2) | (go_at_call 14; (with_reducible refine (state_calls S g _ ?qis).mono ?_); (case qis => apply is_of (w := w); (repeat (with_reducible first | apply Put.after hp2 | apply Put.after hp1 | exact Put.refl H.out | apply Put.drewN | apply Put.drew | apply Put.alloc | (apply Put.far2 hg0; (case hp => simp <;> omega)))); rfl); rintro e w3 ⟨rfl, hp3⟩; have hz_w3 : w.heap.size + 2 < w3.heap.size := (by have h_ := hp3.size; simp at h_; omega); have hp3c1 := hp3.cell_other (w.heap.size + 1) (by simp <;> omega) hn1; have hp3c2 := hp3.cell_other (w.heap.size + 2) (by simp <;> omega) hn2; have hp3f1 := hp3.frozen_other (w.heap.size + 1) (by simp <;> omega) hn1; have hp3f2 := hp3.frozen_other (w.heap.size + 2) (by simp <;> omega) hn2))
  exact bodyPost_ret (v := (Ans.val (⟨0, 0, false, (s.gotA o_size o_now).1, S.size, S.state⟩ : Ans))) (by simp [results, Try.results12, go_sem, Ans.val, hp3c1, hp2c1, hp1c1]) rfl ⟨rfl, by (repeat (with_reducible first | apply Put.after hp3 | apply Put.after hp2 | apply Put.after hp1 | exact Put.refl H.out | apply Put.drewN | apply Put.drew | apply Put.alloc | (apply Put.far2 hg0; (case hp => simp <;> omega))))⟩
set_option maxRecDepth 100000 in
set_option maxHeartbeats 4000000 in
theorem does_6 (K : Int) (s : Pt) (g : Nat) (o_kind o_n o_size o_now c1 c2 c3 c4 c5 c6 c7 : Int) (k2 : ¬ o_kind = 2) (k3 : ¬ o_kind = 3) (k4 : ¬ o_kind = 4) (k5 : ¬ o_kind = 5) (k6 : o_kind = 6) (w : World) (h : Is w g s) (hi : Inv K s) (hK : K + 1 ≤ 1125899906842624) :
    Calls Try.prog 12 #[.pointer (some ⟨g, 0, none⟩), .agg #[.int .i64 o_kind, .int .i64 c1, .int .i64 c2, .int .i64 c3, .int .i64 c4, .int .i64 c5, .int .i64 c6, .int .i64 c7, .int .i64 o_n, .int .i64 o_size, .int .i64 o_now]] w fun e w' => e = .returned (Pt.says s ⟨o_kind, ⟨c1, c2, c3, c4, c5, c6, c7⟩, o_n, o_size, o_now⟩).val ∧ Put w w' g 66 (Pt.after s ⟨o_kind, ⟨c1, c2, c3, c4, c5, c6, c7⟩, o_n, o_size, o_now⟩).cells := by
  obtain ⟨S, hS⟩ : ∃ S, S = (s.lostA o_size o_now).2 := ⟨_, rfl⟩
  have ha : Pt.after s ⟨o_kind, ⟨c1, c2, c3, c4, c5, c6, c7⟩, o_n, o_size, o_now⟩ = S := by unfold Pt.after; rw [if_neg (show ¬ o_kind = 2 from k2)]; rw [if_neg (show ¬ o_kind = 3 from k3)]; rw [if_neg (show ¬ o_kind = 4 from k4)]; rw [if_neg (show ¬ o_kind = 5 from k5)]; rw [if_pos (show o_kind = 6 from k6)]; exact hS.symm
  have hs : Pt.says s ⟨o_kind, ⟨c1, c2, c3, c4, c5, c6, c7⟩, o_n, o_size, o_now⟩ = ⟨0, 0, (s.lostA o_size o_now).1.1, (s.lostA o_size o_now).1.2, S.size, S.state⟩ := by unfold Pt.says; rw [ha]; rw [if_neg (show ¬ o_kind = 2 from k2)]; rw [if_neg (show ¬ o_kind = 3 from k3)]; rw [if_neg (show ¬ o_kind = 4 from k4)]; rw [if_neg (show ¬ o_kind = 5 from k5)]; rw [if_pos (show o_kind = 6 from k6)]
  rw [ha, hs]
  clear ha hs
  have HS := Lib.hid hS
  clear hS
  have hK1 : K ≤ 1125899906842624 := by omega
  have hg0 := h.lt
  have hn1 : ¬ w.heap.size + 1 = g := by omega
  have hn2 : ¬ w.heap.size + 2 = g := by omega
  have hm1 : ¬ g = w.heap.size + 1 := by omega
  have hm2 : ¬ g = w.heap.size + 2 := by omega
  have H := Lib.hid h; clear h
  have k2_t : (o_kind == 2) = false := beq_eq_false_iff_ne.2 k2
  have k2_u : (o_kind != 2) = true := bne_iff_ne.2 k2
  clear k2
  have k3_t : (o_kind == 3) = false := beq_eq_false_iff_ne.2 k3
  have k3_u : (o_kind != 3) = true := bne_iff_ne.2 k3
  clear k3
  have k4_t : (o_kind == 4) = false := beq_eq_false_iff_ne.2 k4
  have k4_u : (o_kind != 4) = true := bne_iff_ne.2 k4
  clear k4
  have k5_t : (o_kind == 5) = false := beq_eq_false_iff_ne.2 k5
  have k5_u : (o_kind != 5) = true := bne_iff_ne.2 k5
  clear k5
  have k6_t : (o_kind == 6) = true := beq_iff_eq.2 k6
  have k6_u : (o_kind != 6) = false := bne_eq_false_iff_eq.2 k6
  clear k6
  go_enter Try.func12, Try.ntmps12
  go_wp2_with (first | (go_at_call 23; (with_reducible refine (lost_any K s g _ _ _ ?qis hi hK1).mono ?_); (case qis => apply is_of (w := w); (repeat (with_reducible first | exact Put.refl H.out | apply Put.drewN | apply Put.drew | apply Put.alloc | (apply Put.far2 hg0; (case hp => simp <;> omega)))); rfl); rintro e w1 ⟨rfl, hp1⟩; rw [← HS.out] at hp1; have hz_w1 : w.heap.size + 2 < w1.heap.size := (by have h_ := hp1.size; simp at h_; omega); have hp1c1 := hp1.cell_other (w.heap.size + 1) (by simp <;> omega) hn1; have hp1c2 := hp1.cell_other (w.heap.size + 2) (by simp <;> omega) hn2; have hp1f1 := hp1.frozen_other (w.heap.size + 1) (by simp <;> omega) hn1; have hp1f2 := hp1.frozen_other (w.heap.size + 2) (by simp <;> omega) hn2) | (go_at_call 15; (with_reducible refine (size_calls S g _ ?qis).mono ?_); (case qis => apply is_of (w := w); (repeat (with_reducible first | apply Put.after hp1 | exact Put.refl H.out | apply Put.drewN | apply Put.drew | apply Put.alloc | (apply Put.far2 hg0; (case hp => simp <;> omega)))); rfl); rintro e w2 ⟨rfl, hp2⟩; have hz_w2 : w.heap.size + 2 < w2.heap.size := (by have h_ := hp2.size; simp at h_; omega); have hp2c1 := hp2.cell_other (w.heap.size + 1) (by simp <;> omega) hn1; have hp2c2 := hp2.cell_other (w.heap.size + 2) (by simp <;> omega) hn2; have hp2f1 := hp2.frozen_other (w.heap.size + 1) (by simp <;> omega) hn1; have hp2f2 := hp2.frozen_other (w.heap.size + 2) (by simp <;> omega) hn2) | (go_at_call 14; (with_reducible refine (state_calls S g _ ?qis).mono ?_); (case qis => apply is_of (w := w); (repeat (with_reducible first | apply Put.after hp2 | apply Put.after hp1 | exact Put.refl H.out | apply Put.drewN | apply Put.drew | apply Put.alloc | (apply Put.far2 hg0; (case hp => simp <;> omega)))); rfl); rintro e w3 ⟨rfl, hp3⟩; have hz_w3 : w.heap.size + 2 < w3.heap.size := (by have h_ := hp3.size; simp at h_; omega); have hp3c1 := hp3.cell_other (w.heap.size + 1) (by simp <;> omega) hn1; have hp3c2 := hp3.cell_other (w.heap.size + 2) (by simp <;> omega) hn2; have hp3f1 := hp3.frozen_other (w.heap.size + 1) (by simp <;> omega) hn1; have hp3f2 := hp3.frozen_other (w.heap.size + 2) (by simp <;> omega) hn2))
  exact bodyPost_ret (v := (Ans.val (⟨0, 0, (s.lostA o_size o_now).1.1, (s.lostA o_size o_now).1.2, S.size, S.state⟩ : Ans))) (by simp [results, Try.results12, go_sem, Ans.val, hp3c1, hp2c1, hp1c1]) rfl ⟨rfl, by (repeat (with_reducible first | apply Put.after hp3 | apply Put.after hp2 | apply Put.after hp1 | exact Put.refl H.out | apply Put.drewN | apply Put.drew | apply Put.alloc | (apply Put.far2 hg0; (case hp => simp <;> omega))))⟩
set_option maxRecDepth 100000 in
set_option maxHeartbeats 4000000 in
theorem does_0 (K : Int) (s : Pt) (g : Nat) (o_kind o_n o_size o_now c1 c2 c3 c4 c5 c6 c7 : Int) (k2 : ¬ o_kind = 2) (k3 : ¬ o_kind = 3) (k4 : ¬ o_kind = 4) (k5 : ¬ o_kind = 5) (k6 : ¬ o_kind = 6) (w : World) (h : Is w g s) (hi : Inv K s) (hK : K + 1 ≤ 1125899906842624) :
    Calls Try.prog 12 #[.pointer (some ⟨g, 0, none⟩), .agg #[.int .i64 o_kind, .int .i64 c1, .int .i64 c2, .int .i64 c3, .int .i64 c4, .int .i64 c5, .int .i64 c6, .int .i64 c7, .int .i64 o_n, .int .i64 o_size, .int .i64 o_now]] w fun e w' => e = .returned (Pt.says s ⟨o_kind, ⟨c1, c2, c3, c4, c5, c6, c7⟩, o_n, o_size, o_now⟩).val ∧ Put w w' g 66 (Pt.after s ⟨o_kind, ⟨c1, c2, c3, c4, c5, c6, c7⟩, o_n, o_size, o_now⟩).cells := by
  have ha : Pt.after s ⟨o_kind, ⟨c1, c2, c3, c4, c5, c6, c7⟩, o_n, o_size, o_now⟩ = s := by unfold Pt.after; rw [if_neg (show ¬ o_kind = 2 from k2)]; rw [if_neg (show ¬ o_kind = 3 from k3)]; rw [if_neg (show ¬ o_kind = 4 from k4)]; rw [if_neg (show ¬ o_kind = 5 from k5)]; rw [if_neg (show ¬ o_kind = 6 from k6)]
  have hs : Pt.says s ⟨o_kind, ⟨c1, c2, c3, c4, c5, c6, c7⟩, o_n, o_size, o_now⟩ = ⟨0, 0, false, 0, s.size, s.state⟩ := by unfold Pt.says; rw [ha]; rw [if_neg (show ¬ o_kind = 2 from k2)]; rw [if_neg (show ¬ o_kind = 3 from k3)]; rw [if_neg (show ¬ o_kind = 4 from k4)]; rw [if_neg (show ¬ o_kind = 5 from k5)]; rw [if_neg (show ¬ o_kind = 6 from k6)]
  rw [ha, hs]
  clear ha hs
  have hK1 : K ≤ 1125899906842624 := by omega
  have hg0 := h.lt
  have hn1 : ¬ w.heap.size + 1 = g := by omega
  have hn2 : ¬ w.heap.size + 2 = g := by omega
  have hm1 : ¬ g = w.heap.size + 1 := by omega
  have hm2 : ¬ g = w.heap.size + 2 := by omega
  have H := Lib.hid h; clear h
  have k2_t : (o_kind == 2) = false := beq_eq_false_iff_ne.2 k2
  have k2_u : (o_kind != 2) = true := bne_iff_ne.2 k2
  clear k2
  have k3_t : (o_kind == 3) = false := beq_eq_false_iff_ne.2 k3
  have k3_u : (o_kind != 3) = true := bne_iff_ne.2 k3
  clear k3
  have k4_t : (o_kind == 4) = false := beq_eq_false_iff_ne.2 k4
  have k4_u : (o_kind != 4) = true := bne_iff_ne.2 k4
  clear k4
  have k5_t : (o_kind == 5) = false := beq_eq_false_iff_ne.2 k5
  have k5_u : (o_kind != 5) = true := bne_iff_ne.2 k5
  clear k5
  have k6_t : (o_kind == 6) = false := beq_eq_false_iff_ne.2 k6
  have k6_u : (o_kind != 6) = true := bne_iff_ne.2 k6
  clear k6
  go_enter Try.func12, Try.ntmps12
  go_wp2_with (first | (go_at_call 15; (with_reducible refine (size_calls s g _ ?qis).mono ?_); (case qis => apply is_of (w := w); (repeat (with_reducible first | exact Put.refl H.out | apply Put.drewN | apply Put.drew | apply Put.alloc | (apply Put.far2 hg0; (case hp => simp <;> omega)))); rfl); rintro e w2 ⟨rfl, hp2⟩; have hz_w2 : w.heap.size + 2 < w2.heap.size := (by have h_ := hp2.size; simp at h_; omega); have hp2c1 := hp2.cell_other (w.heap.size + 1) (by simp <;> omega) hn1; have hp2c2 := hp2.cell_other (w.heap.size + 2) (by simp <;> omega) hn2; have hp2f1 := hp2.frozen_other (w.heap.size + 1) (by simp <;> omega) hn1; have hp2f2 := hp2.frozen_other (w.heap.size + 2) (by simp <;> omega) hn2) | (go_at_call 14; (with_reducible refine (state_calls s g _ ?qis).mono ?_); (case qis => apply is_of (w := w); (repeat (with_reducible first | apply Put.after hp2 | exact Put.refl H.out | apply Put.drewN | apply Put.drew | apply Put.alloc | (apply Put.far2 hg0; (case hp => simp <;> omega)))); rfl); rintro e w3 ⟨rfl, hp3⟩; have hz_w3 : w.heap.size + 2 < w3.heap.size := (by have h_ := hp3.size; simp at h_; omega); have hp3c1 := hp3.cell_other (w.heap.size + 1) (by simp <;> omega) hn1; have hp3c2 := hp3.cell_other (w.heap.size + 2) (by simp <;> omega) hn2; have hp3f1 := hp3.frozen_other (w.heap.size + 1) (by simp <;> omega) hn1; have hp3f2 := hp3.frozen_other (w.heap.size + 2) (by simp <;> omega) hn2))
  exact bodyPost_ret (v := (Ans.val (⟨0, 0, false, 0, s.size, s.state⟩ : Ans))) (by simp [results, Try.results12, go_sem, Ans.val, hp3c1, hp2c1]) rfl ⟨rfl, by (repeat (with_reducible first | apply Put.after hp3 | apply Put.after hp2 | exact Put.refl H.out | apply Put.drewN | apply Put.drew | apply Put.alloc | (apply Put.far2 hg0; (case hp => simp <;> omega))))⟩
end Go.Proofs.Ytmanojnhjhpokaa.PB
