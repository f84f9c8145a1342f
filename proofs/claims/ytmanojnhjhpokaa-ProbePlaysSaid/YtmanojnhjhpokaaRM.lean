/- The reference path's methods by contract, told by the program's path that goes with it. Conditions: the two paths go together, the invariant holds, fewer than 2^50 numbers were given. -/
import Derived.Test.YtmanojnhjhpokaaRS
import Derived.Test.YtmanojnhjhpokaaRK
import Derived.Test.YtmanojnhjhpokaaRT
import Derived.Test.YtmanojnhjhpokaaRX
import Derived.Test.YtmanojnhjhpokaaPR
namespace Go.Proofs.Ytmanojnhjhpokaa.PB
set_option linter.unusedVariables false
set_option linter.unusedSimpArgs false
open Go.RowKit
/-- What holds of the probe that the reference's path keeps. -/
def Rb (r : Rt) : Prop := (0 ≤ r.at_ ∧ r.at_ ≤ 1099511627776) ∧ 0 ≤ r.usize ∧ r.usize ≤ 65535
section
variable {K n : Int} {s : Pt} {r : Rt}
theorem Rm.of (h : Sim s r) (hi : Inv K s) (hb : Rb r) (hK : K ≤ 1125899906842624) : Rm r := by
  obtain ⟨c1, c2, c3, c4, c5, c6, c7⟩ := h.cfg
  have e1 := h.low
  have e2 := h.high
  have e3 := h.tries
  have e4 := h.losses
  have e5 := h.given
  have e6 := h.since
  have e7 := h.last
  have hf := floor_pos s.v
  have b := hb.1
  refine ⟨?_, ?_, ?_, ?_, ?_, ?_, b, ?_, ?_⟩ <;> (unfold Inv at hi; omega)
theorem Rb.settle (h : Rb r) : Rb (r.settle n) := by
  unfold Rt.settle; split
  · exact h
  split
  · exact h
  · exact h
theorem Rb.lostU (h : Rb r) : Rb (r.lostU n) := by
  unfold Rt.lostU; split
  · exact h
  split
  · exact h
  · exact Rb.settle (r := { r.lost1 with high := r.usize, hint := 0 }) h
theorem Rb.stepA (h : Rb r) : Rb (r.stepA n) := by
  unfold Rt.stepA; split
  · exact h.lostU
  · exact h
theorem Rb.stepB (h : Rb r) : Rb (r.stepB n) := by
  unfold Rt.stepB; split
  · exact h
  · exact h
theorem Rb.stepC (h : Rb r) : Rb (r.stepC n) := by
  unfold Rt.stepC; split
  · exact h
  · exact h
theorem Rb.acked (h : Rb r) (p : Int) : Rb (r.acked p n).2 := by
  unfold Rt.acked; split
  · dsimp only
    split
    · exact Rb.settle (r := r.ackB) h
    split
    · exact Rb.settle (r := r.ackT) h
    · exact Rb.settle (r := r.ackS) h
  · exact h
theorem Rb.tooBig (h : Rb r) (p m : Int) : Rb (r.tooBig p m n).2 := by
  unfold Rt.tooBig; split
  · split
    · exact h.lostU
    split
    · exact h
    split
    · exact h.lostU
    · exact h
  · exact h
theorem Rb.got (h : Rb r) (m : Int) : Rb (r.got m) := by
  unfold Rt.got; split
  · exact h
  · exact h
theorem Rb.lost (h : Rb r) (m : Int) : Rb (r.lost m).2 := by
  unfold Rt.lost; split
  · split
    · exact h
    · exact h
  · exact h
/-- Where a Next comes to behind its two looks at the clock. -/
theorem stages (h : Sim s r) (hi : Inv K s) (hn : s.now = n) (hw : ¬ (r.is = true ∧ n - r.at_ < r.wait)) :
    ∃ t u : Pt, Sim t (r.stepA n) ∧ Inv K t ∧ Sim u (((r.stepA n).stepB n).stepC n) ∧ Inv K u ∧ u.number = s.number ∧ u.unum = 0 ∧ u.now = n := by
  have his := h.is
  by_cases hu : 0 < s.unum
  · have hit : r.is = true := by rw [his]; exact decide_eq_true hu
    have ha : r.stepA n = r.lostU n := by unfold Rt.stepA; rw [if_pos hit]
    have hd := h.drop hi hu hn
    have hdi := hi.drop hu
    rw [ha]
    refine ⟨s.drop, s.drop.raised n, hd, hdi, hd.raised hdi (drop_unum s), hdi.raised (drop_unum s), ?_, raised_unum (drop_unum s), by rw [raised_now, drop_now, hn]⟩
    have k1 : ∀ q : Pt, (q.raised n).number = q.number := fun q => by
      unfold Pt.raised
      split
      · split
        · split <;> rfl
        · split <;> rfl
      · rfl
    have k2 : s.drop.number = s.number := by
      unfold Pt.drop
      split
      · rfl
      split
      · rfl
      split <;> rfl
    rw [k1, k2]
  · have hif : ¬ r.is = true := by rw [his]; simpa using hu
    have hz : s.unum = 0 := by unfold Inv at hi; omega
    have ha : r.stepA n = r := by unfold Rt.stepA; rw [if_neg hif]
    rw [ha]
    refine ⟨s, s.raised n, h, hi, h.raised hi hz, hi.raised hz, ?_, raised_unum hz, by rw [raised_now, hn]⟩
    unfold Pt.raised
    split
    · split
      · split <;> rfl
      · split <;> rfl
    · rfl
theorem Rb.next (h : Sim s r) (hi : Inv K s) (hb : Rb r) (hn : s.now = n) : Rb (r.next n).2 := by
  have hnb : 0 ≤ n ∧ n ≤ 1099511627776 := by unfold Inv at hi; omega
  unfold Rt.next
  by_cases hw : r.is = true ∧ n - r.at_ < r.wait
  · rw [if_pos hw]; exact hb
  rw [if_neg hw]
  obtain ⟨t, u, _, _, hu, hui, _⟩ := stages h hi hn hw
  unfold Rt.tell
  by_cases h34 : (((r.stepA n).stepB n).stepC n).st = 3 ∨ (((r.stepA n).stepB n).stepC n).st = 4
  · rw [if_pos h34]; exact hb.stepA.stepB.stepC
  rw [if_neg h34]
  refine ⟨hnb, ?_⟩
  show 0 ≤ (((r.stepA n).stepB n).stepC n).trial ∧ (((r.stepA n).stepB n).stepC n).trial ≤ 65535
  rw [hu.tried]
  rw [hu.st] at h34
  have ht := tried_in hui
  have hf := floor_pos u.v
  have h12 : u.state = 1 ∨ u.state = 2 := by unfold Inv at hui; omega
  rcases h12 with e | e
  · rw [ht.1 e]; unfold Inv at hui; omega
  · have := ht.2 e; unfold Inv at hui; omega
theorem Sim.nextA (h : Sim s r) (hi : Inv K s) (hb : Rb r) (n : Int) : Sim (s.nextA n).2 (r.nextA n).2 ∧ (r.nextA n).1 = (s.nextA n).1 ∧ Rb (r.nextA n).2 := by
  unfold Rt.nextA Pt.nextA
  by_cases hl : s.late n
  · rw [if_pos hl, if_pos (h.late.2 hl)]; exact ⟨h, rfl, hb⟩
  · rw [if_neg hl, if_neg (fun k => hl (h.late.1 k))]
    unfold Pt.late at hl
    have hia := hi.at_ (n := n) (by omega) (by omega)
    obtain ⟨a, b⟩ := (h.at_ n).next hia rfl
    exact ⟨a, by rw [b], Rb.next (h.at_ n) hia hb rfl⟩
theorem Sim.ackedA (h : Sim s r) (hi : Inv K s) (hb : Rb r) (p n : Int) : Sim (s.ackedA p n).2 (r.ackedA p n).2 ∧ (r.ackedA p n).1 = (s.ackedA p n).1 ∧ Rb (r.ackedA p n).2 := by
  unfold Rt.ackedA Pt.ackedA
  by_cases hl : s.late n
  · rw [if_pos hl, if_pos (h.late.2 hl)]; exact ⟨h, rfl, hb⟩
  · rw [if_neg hl, if_neg (fun k => hl (h.late.1 k))]
    unfold Pt.late at hl
    have hia := hi.at_ (n := n) (by omega) (by omega)
    obtain ⟨a, b⟩ := (h.at_ n).acked hia rfl p
    exact ⟨a, by rw [b], Rb.acked (r := r.at' n) hb p⟩
theorem Sim.tooBigA (h : Sim s r) (hi : Inv K s) (hb : Rb r) (p m n : Int) : Sim (s.tooBigA p m n).2 (r.tooBigA p m n).2 ∧ (r.tooBigA p m n).1 = (s.tooBigA p m n).1 ∧ Rb (r.tooBigA p m n).2 := by
  unfold Rt.tooBigA Pt.tooBigA
  by_cases hl : s.late n
  · rw [if_pos hl, if_pos (h.late.2 hl)]; exact ⟨h, rfl, hb⟩
  · rw [if_neg hl, if_neg (fun k => hl (h.late.1 k))]
    unfold Pt.late at hl
    have hia := hi.at_ (n := n) (by omega) (by omega)
    obtain ⟨a, b⟩ := (h.at_ n).tooBig hia rfl p m
    exact ⟨a, by rw [b], Rb.tooBig (r := r.at' n) hb p m⟩
theorem Sim.gotA (h : Sim s r) (hb : Rb r) (m n : Int) : Sim (s.gotA m n).2 (r.gotA m n).2 ∧ (r.gotA m n).1 = (s.gotA m n).1 ∧ Rb (r.gotA m n).2 := by
  unfold Rt.gotA Pt.gotA
  by_cases hl : s.late n
  · rw [if_pos hl, if_pos (h.late.2 hl)]; exact ⟨h, rfl, hb⟩
  · rw [if_neg hl, if_neg (fun k => hl (h.late.1 k))]
    exact ⟨(h.at_ n).got m, rfl, Rb.got (r := r.at' n) hb m⟩
theorem Sim.lostA (h : Sim s r) (hb : Rb r) (m n : Int) : Sim (s.lostA m n).2 (r.lostA m n).2 ∧ (r.lostA m n).1 = (s.lostA m n).1 ∧ Rb (r.lostA m n).2 := by
  unfold Rt.lostA Pt.lostA
  by_cases hl : s.late n
  · rw [if_pos hl, if_pos (h.late.2 hl)]; exact ⟨h, rfl, hb⟩
  · rw [if_neg hl, if_neg (fun k => hl (h.late.1 k))]
    obtain ⟨a, b⟩ := (h.at_ n).lost m
    exact ⟨a, by rw [b], Rb.lost (r := r.at' n) hb m⟩
end
theorem rnext_sim (K : Int) (s : Pt) (r : Rt) (g : Nat) (n : Int) (w : World) (h : Ri w g r) (hs : Sim s r) (hi : Inv K s) (hb : Rb r) (hK : K + 1 ≤ 1125899906842624) :
    Calls Try.prog 30 #[.pointer (some ⟨g, 0, none⟩), .int .i64 n] w fun e w' => e = .returned (.tuple #[.int .i64 (s.nextA n).1.1, .int .i64 (s.nextA n).1.2.1, .int .i64 (s.nextA n).1.2.2]) ∧ Put w w' g 70 (r.nextA n).2.cells := by
  rw [← (hs.nextA hi hb n).2.1]
  refine rnext_any r g n w h (Rm.of hs hi hb (by omega)) (fun hl hw => ?_) hb.2
  have hl' : ¬ s.late n := fun k => hl (hs.late.2 k)
  unfold Pt.late at hl'
  have hia := hi.at_ (n := n) (by omega) (by omega)
  have hsa := hs.at_ n
  obtain ⟨t, u, h1, h2, h3, h4, h5, h6, h7⟩ := stages hsa hia rfl hw
  refine ⟨Rm.of h1 h2 (Rb.stepA (r := r.at' n) hb) (by omega), Rm.of h3 h4 (Rb.stepC (Rb.stepB (Rb.stepA (r := r.at' n) hb))) (by omega), ?_, ?_⟩
  · rw [h3.st, h3.low, h3.high]
    unfold Inv at h4
    omega
  · rw [h3.given, h5]
    have : s.number ≤ K := by unfold Inv at hi; omega
    show s.number + 1 ≤ _
    omega
theorem racked_sim (K : Int) (s : Pt) (r : Rt) (g : Nat) (p n : Int) (w : World) (h : Ri w g r) (hs : Sim s r) (hi : Inv K s) (hb : Rb r) (hK : K ≤ 1125899906842624) :
    Calls Try.prog 31 #[.pointer (some ⟨g, 0, none⟩), .int .i64 p, .int .i64 n] w fun e w' => e = .returned (.tuple #[.bool (s.ackedA p n).1.1, .int .i64 (s.ackedA p n).1.2]) ∧ Put w w' g 70 (r.ackedA p n).2.cells := by
  rw [← (hs.ackedA hi hb p n).2.1]
  exact racked_any r g p n w h (Rm.of hs hi hb hK) (by rw [hs.cfg.2.1]; have := floor_pos s.v; unfold Inv at hi; omega) hb.2
theorem rtooBig_sim (K : Int) (s : Pt) (r : Rt) (g : Nat) (p m n : Int) (w : World) (h : Ri w g r) (hs : Sim s r) (hi : Inv K s) (hb : Rb r) (hK : K ≤ 1125899906842624) :
    Calls Try.prog 32 #[.pointer (some ⟨g, 0, none⟩), .int .i64 p, .int .i64 m, .int .i64 n] w fun e w' => e = .returned (.tuple #[.bool (s.tooBigA p m n).1.1, .int .i64 (s.tooBigA p m n).1.2]) ∧ Put w w' g 70 (r.tooBigA p m n).2.cells := by
  rw [← (hs.tooBigA hi hb p m n).2.1]
  exact rtooBig_any r g p m n w h (Rm.of hs hi hb hK) (by rw [hs.cfg.2.1]; have := floor_pos s.v; unfold Inv at hi; omega) hb.2
theorem rgot_sim (K : Int) (s : Pt) (r : Rt) (g : Nat) (m n : Int) (w : World) (h : Ri w g r) (hs : Sim s r) (hi : Inv K s) (hb : Rb r) (hK : K ≤ 1125899906842624) :
    Calls Try.prog 33 #[.pointer (some ⟨g, 0, none⟩), .int .i64 m, .int .i64 n] w fun e w' => e = .returned (.int .i64 (s.gotA m n).1) ∧ Put w w' g 70 (r.gotA m n).2.cells := by
  rw [← (hs.gotA hb m n).2.1]
  exact rgot_any r g m n w h (Rm.of hs hi hb hK)
theorem rlost_sim (K : Int) (s : Pt) (r : Rt) (g : Nat) (m n : Int) (w : World) (h : Ri w g r) (hs : Sim s r) (hi : Inv K s) (hb : Rb r) (hK : K ≤ 1125899906842624) :
    Calls Try.prog 34 #[.pointer (some ⟨g, 0, none⟩), .int .i64 m, .int .i64 n] w fun e w' => e = .returned (.tuple #[.bool (s.lostA m n).1.1, .int .i64 (s.lostA m n).1.2]) ∧ Put w w' g 70 (r.lostA m n).2.cells := by
  rw [← (hs.lostA hb m n).2.1]
  exact rlost_any r g m n w h (Rm.of hs hi hb hK)
theorem rsize_sim (S : Pt) (R : Rt) (g : Nat) (w : World) (h : Ri w g R) (hs : Sim S R) : Calls Try.prog 35 #[.pointer (some ⟨g, 0, none⟩)] w fun e w' => e = .returned (.int .i64 S.size) ∧ Put w w' g 70 R.cells := by
  rw [← hs.size]; exact rsize_calls R g w h
theorem rstate_sim (S : Pt) (R : Rt) (g : Nat) (w : World) (h : Ri w g R) (hs : Sim S R) : Calls Try.prog 36 #[.pointer (some ⟨g, 0, none⟩)] w fun e w' => e = .returned (.int .i64 S.state) ∧ Put w w' g 70 R.cells := by
  rw [← hs.st]; exact rstate_calls R g w h
theorem ris_of {w W : World} {g : Nat} {r : Rt} {cs : Array Value} (h : Put w W g 70 cs) (e : cs = r.cells) : Ri W g r := (h.to e).blk
end Go.Proofs.Ytmanojnhjhpokaa.PB
