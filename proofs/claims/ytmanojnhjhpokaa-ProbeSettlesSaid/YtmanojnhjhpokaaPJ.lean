/- Contracts of probe.Path's methods, each by one theorem under the path's invariant. Conditions: the path lies in one block that is known whole, the invariant holds, fewer than 2^50 numbers were given. -/
import Derived.Test.YtmanojnhjhpokaaPN
import Derived.Test.YtmanojnhjhpokaaPK
namespace Go.Proofs.Ytmanojnhjhpokaa.PB
set_option linter.unusedVariables false
set_option linter.unusedSimpArgs false
open Go.RowKit
theorem Sm.of {K : Int} {s : Pt} (h : Inv K s) (hK : K ≤ 1125899906842624) : Sm s := by
  unfold Inv at h; constructor <;> omega
theorem sm_acked1 {K : Int} {s : Pt} (h : Inv K s) (hK : K ≤ 1125899906842624) : Sm s.acked1 := by
  have := floor_pos s.v
  unfold Inv at h
  unfold Pt.acked1
  split
  · constructor <;> dsimp only [Pt.search, Pt.under0] <;> omega
  split
  · split
    · constructor <;> dsimp only [Pt.under0] <;> omega
    · constructor <;> dsimp only [Pt.under0] <;> omega
  · constructor <;> dsimp only [Pt.under0] <;> omega
theorem sm_base {K : Int} {s : Pt} (h : Inv K s) (hK : K ≤ 1125899906842624) : Sm ({ s.under0 0 with losses := 0, low := s.base } : Pt) := by
  have := floor_pos s.v
  unfold Inv at h
  constructor <;> dsimp only [Pt.under0] <;> omega
theorem next_any (K : Int) (s : Pt) (g : Nat) (n : Int) (w : World) (h : Is w g s) (hi : Inv K s) (hK : K + 1 ≤ 1125899906842624) :
    Calls Try.prog 22 #[.pointer (some ⟨g, 0, none⟩), .int .i64 n] w fun e w' => e = .returned (.tuple #[.int .i64 (s.nextA n).1.1, .int .i64 (s.nextA n).1.2.1, .int .i64 (s.nextA n).1.2.2]) ∧ Put w w' g 66 (s.nextA n).2.cells := by
  have hm := Sm.of hi (by omega)
  unfold Pt.nextA
  by_cases hl : s.late n
  · rw [if_pos hl]; exact next_no s g n w hl h hm
  · rw [if_neg hl]
    have h1 : ¬ n < s.now := fun k => hl (.inl k)
    have h2 : ¬ 1099511627776 < n := fun k => hl (.inr k)
    have hi0 := hi.at_ h1 h2
    have num : ∀ S : Pt, Inv K S → Sm S.num1 := fun S hS => by
      have a := Sm.of hS (by omega)
      have b : S.number ≤ K := by unfold Inv at hS; omega
      exact ⟨a.most, a.low, a.high, a.tries, a.losses, a.usize, a.hsize, ⟨by have := a.number; show 0 ≤ S.number + 1; omega, by show S.number + 1 ≤ _; omega⟩, a.unum, a.uat, a.since, a.now⟩
    have lh : ∀ S : Pt, Inv K S → S.state = 1 ∨ S.state = 2 → S.state = 1 ∨ S.low ≤ S.high := fun S hS e => by
      unfold Inv at hS; omega
    by_cases h3 : 0 < (({ s with now := n } : Pt)).unum
    · by_cases h4 : n - (({ s with now := n } : Pt)).uat < (({ s with now := n } : Pt)).wait
      · exact next_c s g n w h1 h2 h3 h4 h hm
      · have hd := hi0.drop h3
        have hr := hd.raised (n := n) (drop_unum _)
        exact next_d s g n w h1 h2 ⟨num _ hr, lh _ hr⟩ h3 h4 (Sm.of hd (by omega)) h hm
    · have hu : (({ s with now := n } : Pt)).unum = 0 := by have := hi0; unfold Inv at this; omega
      have hr := hi0.raised (n := n) hu
      exact next_b s g n w h1 h2 ⟨num _ hr, lh _ hr⟩ h3 h hm
theorem acked_any (K : Int) (s : Pt) (g : Nat) (p n : Int) (w : World) (h : Is w g s) (hi : Inv K s) (hK : K ≤ 1125899906842624) :
    Calls Try.prog 28 #[.pointer (some ⟨g, 0, none⟩), .int .i64 p, .int .i64 n] w fun e w' => e = .returned (.tuple #[.bool (s.ackedA p n).1.1, .int .i64 (s.ackedA p n).1.2]) ∧ Put w w' g 66 (s.ackedA p n).2.cells := by
  have hm := Sm.of hi hK
  unfold Pt.ackedA
  by_cases hl : s.late n
  · rw [if_pos hl]; exact acked_no s g p n w hl h hm
  · rw [if_neg hl]
    have h1 : ¬ n < s.now := fun k => hl (.inl k)
    have h2 : ¬ 1099511627776 < n := fun k => hl (.inr k)
    have hi0 := hi.at_ h1 h2
    exact acked_yes s g p n w h1 h2 (sm_acked1 hi0 hK) (sm_base hi0 hK) h hm
theorem tooBig_any (K : Int) (s : Pt) (g : Nat) (p m n : Int) (w : World) (h : Is w g s) (hi : Inv K s) (hK : K ≤ 1125899906842624) :
    Calls Try.prog 29 #[.pointer (some ⟨g, 0, none⟩), .int .i64 p, .int .i64 m, .int .i64 n] w fun e w' => e = .returned (.tuple #[.bool (s.tooBigA p m n).1.1, .int .i64 (s.tooBigA p m n).1.2]) ∧ Put w w' g 66 (s.tooBigA p m n).2.cells := by
  have hm := Sm.of hi hK
  unfold Pt.tooBigA
  by_cases hl : s.late n
  · rw [if_pos hl]; exact tooBig_no s g p m n w hl h hm
  · rw [if_neg hl]
    exact tooBig_yes s g p m n w (fun k => hl (.inl k)) (fun k => hl (.inr k)) h hm
theorem got_any (K : Int) (s : Pt) (g : Nat) (m n : Int) (w : World) (h : Is w g s) (hi : Inv K s) (hK : K ≤ 1125899906842624) :
    Calls Try.prog 24 #[.pointer (some ⟨g, 0, none⟩), .int .i64 m, .int .i64 n] w fun e w' => e = .returned (.int .i64 (s.gotA m n).1) ∧ Put w w' g 66 (s.gotA m n).2.cells := by
  have hm := Sm.of hi hK
  unfold Pt.gotA
  by_cases hl : s.late n
  · rw [if_pos hl]; exact got_no s g m n w hl h hm
  · rw [if_neg hl]
    exact got_yes s g m n w (fun k => hl (.inl k)) (fun k => hl (.inr k)) h hm
theorem lost_any (K : Int) (s : Pt) (g : Nat) (m n : Int) (w : World) (h : Is w g s) (hi : Inv K s) (hK : K ≤ 1125899906842624) :
    Calls Try.prog 23 #[.pointer (some ⟨g, 0, none⟩), .int .i64 m, .int .i64 n] w fun e w' => e = .returned (.tuple #[.bool (s.lostA m n).1.1, .int .i64 (s.lostA m n).1.2]) ∧ Put w w' g 66 (s.lostA m n).2.cells := by
  have hm := Sm.of hi hK
  unfold Pt.lostA
  by_cases hl : s.late n
  · rw [if_pos hl]; exact lost_no s g m n w hl h hm
  · rw [if_neg hl]
    exact lost_yes s g m n w (fun k => hl (.inl k)) (fun k => hl (.inr k)) h hm
end Go.Proofs.Ytmanojnhjhpokaa.PB
