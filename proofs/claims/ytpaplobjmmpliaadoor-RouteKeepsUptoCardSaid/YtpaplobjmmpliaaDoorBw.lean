/- The order of addresses: plain Lean, no program. -/
import Derived.Test.YtpaplobjmmpliaaDoorAl
namespace Go.Proofs.YtpaplobjmmpliaaDoor.Ad
set_option linter.unusedVariables false
set_option linter.unusedSimpArgs false
theorem u8_self (x : UInt8) : ¬ x < x := UInt8.lt_irrefl x
theorem u8_three (x y : UInt8) : (x < y ∧ ¬ y < x) ∨ x = y ∨ (y < x ∧ ¬ x < y) := by
  rcases Nat.lt_trichotomy x.toNat y.toNat with h | h | h
  · exact .inl ⟨UInt8.lt_iff_toNat_lt.2 h, fun h2 => by have := UInt8.lt_iff_toNat_lt.1 h2; omega⟩
  · exact .inr (.inl (UInt8.toNat.inj h))
  · exact .inr (.inr ⟨UInt8.lt_iff_toNat_lt.2 h, fun h2 => by have := UInt8.lt_iff_toNat_lt.1 h2; omega⟩)
theorem cmp_self : ∀ l : List UInt8, Lib.compareBytes l l = 0
  | [] => rfl
  | x :: l => by unfold Lib.compareBytes; simp [cmp_self l]
theorem cmp_swap : ∀ l m : List UInt8, Lib.compareBytes m l = - Lib.compareBytes l m
  | [], [] => rfl
  | [], _ :: _ => rfl
  | _ :: _, [] => rfl
  | x :: l, y :: m => by
    have ih := cmp_swap l m
    unfold Lib.compareBytes
    rcases u8_three x y with ⟨h1, h2⟩ | rfl | ⟨h1, h2⟩
    · rw [if_neg h2, if_pos h1, if_pos h1]; rfl
    · rw [if_neg (u8_self x), if_neg (u8_self x), if_neg (u8_self x), if_neg (u8_self x)]; exact ih
    · rw [if_pos h1, if_neg h2, if_pos h1]
theorem cmp_zero : ∀ l m : List UInt8, l.length = m.length → Lib.compareBytes l m = 0 → l = m
  | [], [], _, _ => rfl
  | [], _ :: _, h, _ => by simp at h
  | _ :: _, [], h, _ => by simp at h
  | x :: l, y :: m, h, h2 => by
    unfold Lib.compareBytes at h2
    rcases u8_three x y with ⟨h1, h3⟩ | rfl | ⟨h1, h3⟩
    · rw [if_pos h1] at h2; cases h2
    · rw [if_neg (u8_self x), if_neg (u8_self x)] at h2; rw [cmp_zero l m (by simpa using h) h2]
    · rw [if_neg h3, if_pos h1] at h2; cases h2
theorem cmp_on : ∀ l m n : List UInt8, l.length = m.length → m.length = n.length → Lib.compareBytes l m < 0 → Lib.compareBytes m n < 0 → Lib.compareBytes l n < 0
  | [], [], [], _, _, h, _ => h
  | [], [], _ :: _, _, h, _, _ => by simp at h
  | [], _ :: _, _, h, _, _, _ => by simp at h
  | _ :: _, [], _, h, _, _, _ => by simp at h
  | _ :: _, _ :: _, [], _, h, _, _ => by simp at h
  | x :: l, y :: m, z :: n, h1, h2, h3, h4 => by
    have ih := cmp_on l m n (by simpa using h1) (by simpa using h2)
    unfold Lib.compareBytes at h3 h4 ⊢
    rcases u8_three x y with ⟨p1, p2⟩ | rfl | ⟨p1, p2⟩
    · rcases u8_three y z with ⟨q1, q2⟩ | rfl | ⟨q1, q2⟩
      · rw [if_pos (UInt8.lt_trans p1 q1)]; decide
      · rw [if_pos p1]; decide
      · rw [if_neg q2, if_pos q1] at h4; exact absurd h4 (by decide)
    · rcases u8_three x z with ⟨q1, q2⟩ | rfl | ⟨q1, q2⟩
      · rw [if_pos q1]; decide
      · rw [if_neg (u8_self x), if_neg (u8_self x)] at h3 h4 ⊢; exact ih h3 h4
      · rw [if_neg q2, if_pos q1] at h4; exact absurd h4 (by decide)
    · rw [if_neg p2, if_pos p1] at h3; exact absurd h3 (by decide)
theorem less_self (a : Addr) : a.less a = false := by
  unfold Addr.less; rw [if_pos rfl, cmp_self]; rfl
theorem less_one {a b : Addr} (ha : a.ok) (hb : b.ok) (h : ¬ a = b) : a.less b ≠ b.less a := by
  unfold Addr.less
  by_cases hv : a.v = b.v
  · rw [if_pos hv, if_pos hv.symm, cmp_swap a.b b.b]
    have hne : Lib.compareBytes a.b b.b ≠ 0 := fun h0 => h (by
      have := cmp_zero a.b b.b (ha.trans hb.symm) h0
      cases a; cases b; simp_all)
    rcases Int.lt_or_gt_of_ne hne with h1 | h1
    · rw [decide_eq_true h1, decide_eq_false (by omega)]; decide
    · rw [decide_eq_false (by omega), decide_eq_true (by omega)]; decide
  · rw [if_neg hv, if_neg (fun h => hv h.symm)]
    rcases Int.lt_or_gt_of_ne hv with h1 | h1
    · rw [decide_eq_true h1, decide_eq_false (by omega)]; decide
    · rw [decide_eq_false (by omega), decide_eq_true (by omega)]; decide
theorem less_on {a b c : Addr} (ha : a.ok) (hb : b.ok) (hc : c.ok) (h1 : a.less b = true) (h2 : b.less c = true) : a.less c = true := by
  unfold Addr.less at *
  by_cases hv : a.v = b.v
  · rw [if_pos hv] at h1
    by_cases hv2 : b.v = c.v
    · rw [if_pos hv2] at h2
      rw [if_pos (hv.trans hv2)]
      exact decide_eq_true (cmp_on _ _ _ (ha.trans hb.symm) (hb.trans hc.symm) (of_decide_eq_true h1) (of_decide_eq_true h2))
    · rw [if_neg hv2] at h2
      have := of_decide_eq_true h2
      rw [if_neg (by omega)]; exact decide_eq_true (by omega)
  · rw [if_neg hv] at h1
    have h1' := of_decide_eq_true h1
    by_cases hv2 : b.v = c.v
    · rw [if_neg (by omega)]; exact decide_eq_true (by omega)
    · rw [if_neg hv2] at h2
      have := of_decide_eq_true h2
      rw [if_neg (by omega)]; exact decide_eq_true (by omega)
end Go.Proofs.YtpaplobjmmpliaaDoor.Ad
