/- What the contracts' Lean functions of package sum come to: from some number of rounds on, each answers the plain arithmetic's number. -/
import Derived.Test.YtoijfhcmjolecaaPAllx1
import Derived.Test.YtoijfhcmjolecaaSumT
import Derived.Laws.BitsAllLaws
import Derived.Laws.BitsLemmas
import Derived.OpenShut
namespace Go.Proofs.Ytoijfhcmjolecaa.SumE
set_option linter.unusedVariables false
set_option linter.unusedSimpArgs false
open Go.RowKit Go.Proofs.Ytoijfhcmjolecaa.PAll Go.Proofs.YtoijfhcmjolecaaW.PrintWords Go.Proofs.YtoijfhcmjolecaaW.PrintLast Go.Proofs.Ytoijfhcmjolecaa.SumT

theorem wrap_u64 (n : Int) (h : 0 ≤ n) (h1 : n < 18446744073709551616) : IntKind.u64.wrap n = n := by
  rw [show IntKind.u64.wrap n = n % 18446744073709551616 from IntKind.wrap_u64 n]; omega
theorem wrap_u16 (n : Int) (h : 0 ≤ n) (h1 : n < 65536) : IntKind.u16.wrap n = n := by
  rw [IntKind.wrap_u16]; omega
theorem and_low {n : Int} (h : 0 ≤ n) (h1 : n < 18446744073709551616) : Go.bits .and .u64 n 65535 = n % 65536 :=
  bits_mask .u64 64 (by decide) (fun n h0 h1 => wrap_u64 n h0 (by omega)) 16 (by decide) n h (by omega)
theorem or_word {a b : Int} (ha : 0 ≤ a ∧ a ≤ 255) (hb : 0 ≤ b ∧ b ≤ 255) : Go.bits .or .u64 (a * 256) b = a * 256 + b :=
  bits_join .u64 64 (by decide) (fun n h0 h1 => wrap_u64 n h0 (by omega)) 8 _ _ (by omega) (by omega) (by omega) (by omega) (by omega) (by omega)
theorem or_word16 {a b : Int} (ha : 0 ≤ a ∧ a ≤ 255) (hb : 0 ≤ b ∧ b ≤ 255) : Go.bits .or .u16 (a * 256) b = a * 256 + b :=
  bits_join .u16 16 (by decide) (fun n h0 h1 => wrap_u16 n h0 (by omega)) 8 _ _ (by omega) (by omega) (by omega) (by omega) (by omega) (by omega)
theorem not_nat (t : Nat) (h : t < 65536) : 65535 ^^^ t = 65535 - t := by
  have e : (65535 - t : Nat) = 2 ^ 16 - (t + 1) := by omega
  rw [e]
  refine Nat.eq_of_testBit_eq fun i => ?_
  rw [Nat.testBit_xor, Nat.testBit_two_pow_sub_succ (by omega), show (65535 : Nat) = 2 ^ 16 - 1 from rfl, Nat.testBit_two_pow_sub_one]
  by_cases hi : i < 16
  · simp [hi]
  · have : t.testBit i = false := Nat.testBit_lt_two_pow (Nat.lt_of_lt_of_le (show t < 2 ^ 16 from h) (Nat.pow_le_pow_right (by decide) (Nat.le_of_not_lt hi)))
    simp [hi, this]
theorem xor_max {t : Int} (h : 0 ≤ t) (h1 : t ≤ 65535) : Go.bits .xor .u16 IntKind.u16.max t = 65535 - t := by
  rw [show IntKind.u16.max = 65535 from rfl, u16_xor 65535 t (by omega) (by omega) h (by omega), show (65535 : Int).toNat = 65535 from rfl, not_nat _ (by omega)]
  omega
theorem and_one (n : Int) : bits .and .i64 n 1 = n % 2 := by
  have h1 : (BitVec.ofInt 64 1).toNat = 2 ^ 1 - 1 := by decide
  have key : (BitVec.ofInt 64 n &&& BitVec.ofInt 64 1).toNat = (n % ((2 ^ 64 : Nat) : Int)).toNat % 2 ^ 1 := by
    rw [BitVec.toNat_and, BitVec.toNat_ofInt, h1, Nat.and_two_pow_sub_one_eq_mod]
  show IntKind.i64.wrap ((BitVec.ofInt 64 n &&& BitVec.ofInt 64 1).toNat : Nat) = n % 2
  rw [key, IntKind.wrap_i64]
  omega
theorem swap16 {p : Int} (h : 0 ≤ p) (h1 : p ≤ 65535) : Go.bits .or .u16 (IntKind.u16.wrap (p * 256)) (p / 256) = swap p := by
  rw [IntKind.wrap_u16, show p * 256 % 65536 = (p % 256) * 256 by omega, or_word16 (by omega) (by omega)]
  rfl
theorem rd_get (l : List Int) (i : Nat) : rd l (i : Int) = l.getD i 0 := by unfold rd; rw [Int.toNat_natCast]

theorem fold_ev : ∀ (m : Nat) (n : Int), n.toNat ≤ m → 0 ≤ n → n < 18446744073709551616 → Ev (fun k => sum_fold.f k n) (osum n) := by
  intro m
  induction m with
  | zero =>
    intro n hm h h1
    refine ⟨1, fun k hk => ?_⟩
    obtain ⟨k, rfl⟩ : ∃ m, k = m + 1 := ⟨k - 1, by omega⟩
    simp only [sum_fold.f, sum_fold.l0]
    rw [if_neg (by omega), wrap_u16 n h (by omega), osum_small h (by omega)]
  | succ m ih =>
    intro n hm h h1
    by_cases hc : n > 65535
    · refine Ev.step (f := fun k => sum_fold.f k (n / 65536 + n % 65536)) (fun k => ?_) ?_
      · simp only [sum_fold.f, sum_fold.l0]
        rw [if_pos hc, and_low h h1, wrap_u64 _ (by omega) (by omega)]
      · rw [← osum_step hc]
        exact ih _ (by omega) (by omega) (by omega)
    · refine ⟨1, fun k hk => ?_⟩
      obtain ⟨k, rfl⟩ : ∃ m, k = m + 1 := ⟨k - 1, by omega⟩
      simp only [sum_fold.f, sum_fold.l0]
      rw [if_neg hc, wrap_u16 n h (by omega), osum_small h (by omega)]
theorem fold_any {n : Int} (h : 0 ≤ n) (h1 : n < 18446744073709551616) : Ev (fun k => sum_fold.f k n) (osum n) := fold_ev n.toNat n (Nat.le_refl _) h h1

theorem part_l : ∀ (m : Nat) (l : List Int) (s : Int), l.length ≤ m → Bytes l → 0 ≤ s → s + 65280 * l.length < 18446744073709551616 → Ev (fun k => sum_Part.l0 k l s) (osum (s + psum l)) := by
  intro m
  induction m with
  | zero =>
    intro l s hm hb h0 h1
    obtain rfl : l = [] := List.length_eq_zero_iff.1 (by omega)
    refine Ev.step (f := fun k => (sum_fold.f k s).bind fun t110 => some t110) (fun k => ?_) ?_
    · simp only [sum_Part.l0]; rw [if_neg (by simp), if_neg (by simp)]
    · refine Ev.bind (f := fun _ t => some t) (a := osum (s + psum [])) ?_ (Ev.now _)
      simp only [psum, psw, Int.add_zero]; exact fold_any h0 (by simp at h1; omega)
  | succ m ih =>
    intro l s hm hb h0 h1
    match l, hm, hb, h1 with
    | [], hm, hb, h1 => exact ih [] s (by simp) hb h0 h1
    | [a], hm, hb, h1 =>
      have ha := hb.head
      simp only [List.length_singleton] at h1
      refine Ev.step (f := fun k => (sum_fold.f k (s + a * 256)).bind fun t110 => some t110) (fun k => ?_) ?_
      · simp only [sum_Part.l0]; rw [if_neg (by simp), if_pos (by simp), if_pos (by simp)]
        have e : rd [a] 0 = a := rfl
        rw [e, wrap_u64 a (by omega) (by omega), wrap_u64 (a * 256) (by omega) (by omega), wrap_u64 _ (by omega) (by omega)]
      · refine Ev.bind (f := fun _ t => some t) (a := osum (s + psum [a])) ?_ (Ev.now _)
        simp only [psum, psw, Int.add_zero]; rw [Int.mul_comm]; exact fold_any (by omega) (by omega)
    | a :: b :: t, hm, hb, h1 =>
      have ha := hb.head
      have hb' := hb.tail.head
      have hbt := hb.tail.tail
      simp only [List.length_cons] at h1 hm
      refine Ev.step (f := fun k => sum_Part.l0 k t (s + (a * 256 + b))) (fun k => ?_) ?_
      · simp only [sum_Part.l0]; rw [if_pos (by simp; omega), if_pos (by simp; omega), if_pos (by simp; omega), if_pos (by simp; omega)]
        have e : rd (a :: b :: t) 0 = a := rfl
        have e' : rd (a :: b :: t) 1 = b := rfl
        rw [e, e', wrap_u64 a (by omega) (by omega), wrap_u64 (a * 256) (by omega) (by omega), wrap_u64 b (by omega) (by omega), or_word ha hb', wrap_u64 _ (by omega) (by omega)]
        rfl
      · have e : s + psum (a :: b :: t) = (s + (a * 256 + b)) + psum t := by
          simp only [psum, psw, show (257 : Int) - 256 = 1 from rfl, show (257 : Int) - 1 = 256 from rfl]; omega
        rw [e]
        exact ih t _ (by omega) hbt (by omega) (by omega)
theorem part_any {l : List Int} (hb : Bytes l) (hl : l.length ≤ 140737488355328) : Ev (fun k => sum_Part.f k l) (osum (psum l)) := by
  have := part_l l.length l 0 (Nat.le_refl _) hb (by omega) (by omega)
  rwa [Int.zero_add] at this
theorem add_any {a b : Int} (ha : 0 ≤ a ∧ a ≤ 65535) (hb : 0 ≤ b ∧ b ≤ 65535) : Ev (fun k => sum_Add.f k a b) (osum (a + b)) := by
  unfold sum_Add.f
  rw [wrap_u64 a (by omega) (by omega), wrap_u64 b (by omega) (by omega), wrap_u64 (a + b) (by omega) (by omega)]
  exact Ev.bind (f := fun _ t => some t) (fold_any (by omega) (by omega)) (Ev.now _)
theorem join_any {a n b : Int} (ha : 0 ≤ a ∧ a ≤ 65535) (hb : 0 ≤ b ∧ b ≤ 65535) : Ev (fun k => sum_Join.f k a n b) (osum (a + if n % 2 = 0 then b else swap b)) := by
  have hs := swap_le hb.1 hb.2
  unfold sum_Join.f
  rw [and_one, swap16 hb.1 hb.2]
  by_cases e : n % 2 = 1
  · simp only [if_pos e]; rw [if_neg (by omega)]
    exact Ev.bind (f := fun _ t => some t) (add_any ha hs) (Ev.now _)
  · simp only [if_neg e]; rw [if_pos (by omega)]
    exact Ev.bind (f := fun _ t => some t) (add_any ha hb) (Ev.now _)
theorem of_any {l : List Int} (hb : Bytes l) (hl : l.length ≤ 140737488355328) : Ev (fun k => sum_Of.f k l) (65535 - osum (psum l)) := by
  have h := osum_le _ (psw_nonneg l hb).1
  unfold sum_Of.f
  rw [← xor_max h.1 h.2]
  exact Ev.bind (f := fun _ t => some (Go.bits .xor .u16 IntKind.u16.max t)) (part_any hb hl) (Ev.now _)
theorem known_any : Ev (fun k => mosaiclaw01_known.f k) true := by
  unfold mosaiclaw01_known.f
  have b1 : Bytes [1, 2, 3, 4, 5] := by intro x hx; simp at hx; omega
  have b2 : Bytes [255, 255] := by intro x hx; simp at hx; omega
  have e1 : osum (psum [1, 2, 3, 4, 5]) = 2310 := by decide
  have e2 : osum (1026 + if (3 : Int) % 2 = 0 then 1029 else swap 1029) = 2310 := by decide
  have e3 : 65535 - osum (psum [255, 255]) = 0 := by decide
  have h1 := part_any b1 (by simp)
  have h2 := join_any (a := 1026) (n := 3) (b := 1029) (by omega) (by omega)
  have h3 := of_any b2 (by simp)
  rw [e1] at h1; rw [e2] at h2; rw [e3] at h3
  refine Ev.bind (f := fun k t => if t = 2310 then _ else _) h1 ?_
  simp only [if_true]
  refine Ev.bind (f := fun k t => if t = 2310 then _ else _) h2 ?_
  simp only [if_true]
  exact Ev.bind (f := fun k t => some (t == 0)) h3 (Ev.now _)
theorem bytes_of {l : List Int} (h : ∀ x ∈ l, (Lit.int .u8 x).wf = true) : Bytes l := fun x hx => Go.bounds_u8 (h x hx)
theorem tmod_pos {a n : Int} (hn : 0 < n) : Int.tmod a n = if 0 ≤ a then a % n else -((-a) % n) := by
  split
  · rename_i h; exact Int.tmod_eq_emod_of_nonneg h
  · rename_i h
    obtain ⟨b, rfl⟩ : ∃ b, a = -b := ⟨-a, by omega⟩
    rw [Int.neg_tmod, Int.tmod_eq_emod_of_nonneg (by omega)]; simp
theorem rest_any (n : Int) {most : Int} (h : 0 ≤ most) (h1 : most ≤ 140737488355328) : ∃ r, mosaiclaw01_rest.f n most = some r ∧ 0 ≤ r ∧ r ≤ most := by
  unfold mosaiclaw01_rest.f
  have e : wrap64 (most + 1) = most + 1 := by unfold wrap64; omega
  rw [e, if_neg (by omega)]
  have ht := tmod_pos (a := n) (n := most + 1) (by omega)
  have h2 := Int.emod_nonneg n (show most + 1 ≠ 0 by omega)
  have h3 := Int.emod_lt_of_pos n (show 0 < most + 1 by omega)
  have h4 := Int.emod_nonneg (-n) (show most + 1 ≠ 0 by omega)
  have h5 := Int.emod_lt_of_pos (-n) (show 0 < most + 1 by omega)
  generalize Int.tmod n (most + 1) = t at ht
  generalize n % (most + 1) = x at *
  generalize (-n) % (most + 1) = y at *
  by_cases hneg : t < 0
  · rw [if_pos hneg]
    refine ⟨_, rfl, ?_⟩
    split at ht
    · omega
    · have e1 : wrap64 (t + most) = t + most := by unfold wrap64; omega
      have e2 : wrap64 (t + most + 1) = t + most + 1 := by unfold wrap64; omega
      rw [e1, e2]; omega
  · rw [if_neg hneg]
    refine ⟨_, rfl, ?_⟩
    split at ht <;> omega
theorem w64 {n : Int} (h : -9223372036854775808 ≤ n) (h1 : n ≤ 9223372036854775807) : wrap64 n = n := by unfold wrap64; omega
theorem ev_bind {α β : Type} {g : Option α} {a : α} {r : β} {f : Nat → α → Option β} (h : g = some a) (k : Ev (fun n => f n a) r) : Ev (fun n => g.bind (f n)) r := Ev.congr (fun n => by rw [h]; rfl) k
theorem ev_pos {α : Type} {c : Prop} [Decidable c] {f g : Nat → Option α} {r : α} (h : c) (k : Ev f r) : Ev (fun n => if c then f n else g n) r := Ev.congr (fun n => if_pos h) k
theorem ev_neg {α : Type} {c : Prop} [Decidable c] {f g : Nat → Option α} {r : α} (h : ¬ c) (k : Ev g r) : Ev (fun n => if c then f n else g n) r := Ev.congr (fun n => if_neg h) k
end Go.Proofs.Ytoijfhcmjolecaa.SumE
