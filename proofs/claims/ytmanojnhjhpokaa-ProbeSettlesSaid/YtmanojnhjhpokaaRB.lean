/- Contracts of rest, bounded and halvings. Conditions: rest: its bounds lie in order and are small. -/
import Derived.Test.YtmanojnhjhpokaaPX
import Derived.Test.YtmanojnhjhpokaaPI
import Derived.StillTailTactics
namespace Go.Proofs.Ytmanojnhjhpokaa.PB
set_option linter.unusedVariables false
set_option linter.unusedSimpArgs false
open Go.RowKit
theorem ret_int {k : IntKind} {a b : Int} (h : a = b) : Ending.returned (.int k a) = .returned (.int k b) := by rw [h]
theorem and_one (n : Int) : bits .and .i64 n 1 = n % 2 := by
  have h1 : (BitVec.ofInt 64 1).toNat = 2 ^ 1 - 1 := by decide
  have key : (BitVec.ofInt 64 n &&& BitVec.ofInt 64 1).toNat = (n % ((2 ^ 64 : Nat) : Int)).toNat % 2 ^ 1 := by
    rw [BitVec.toNat_and, BitVec.toNat_ofInt, h1, Nat.and_two_pow_sub_one_eq_mod]
  show IntKind.i64.wrap ((BitVec.ofInt 64 n &&& BitVec.ofInt 64 1).toNat : Nat) = n % 2
  rw [key, IntKind.wrap_i64]
  omega
/-- What rest answers: a number from a up to b. -/
def restF (n a b : Int) : Int := a + n % 18446744073709551616 % (b - a + 1)
theorem restF_in (n a b : Int) (h : a ≤ b) : a ≤ restF n a b ∧ restF n a b ≤ b := by
  unfold restF
  have h1 := Int.emod_nonneg (n % 18446744073709551616) (show b - a + 1 ≠ 0 by omega)
  have h2 := Int.emod_lt_of_pos (n % 18446744073709551616) (show 0 < b - a + 1 by omega)
  omega
theorem wrap_u64_eq (n : Int) : IntKind.u64.wrap n = n % 18446744073709551616 := IntKind.wrap_u64 n
set_option maxHeartbeats 1000000 in
theorem rest_calls (n a b : Int) (w : World) (ha : 0 ≤ a) (h : a ≤ b) (hb : b ≤ 65535) : Calls Try.prog 18 #[.int .i64 n, .int .i64 a, .int .i64 b] w fun e w' => e = .returned (.int .i64 (restF n a b)) ∧ w = w' := by
  have hin := restF_in n a b h
  have heq : Hid (wrap64 (a + wrap64 ((IntKind.u64.wrap n).tmod (b - a + 1))) = restF n a b) := by
    refine Lib.hid ?_
    unfold restF at *
    rw [wrap_u64_eq, Int.tmod_eq_emod_of_nonneg (Int.emod_nonneg _ (by decide))]
    generalize n % 18446744073709551616 % (b - a + 1) = z at *
    have e : wrap64 z = z := by unfold wrap64; omega
    rw [e]
    unfold wrap64; omega
  have hne : ¬ b - a + 1 = 0 := by omega
  have hnz : ((b - a + 1 : Int) == 0) = false := beq_eq_false_iff_ne.2 hne
  clear hin
  go_enter Try.func18, Try.ntmps18
  go_wp2
  go_ret
  exact ⟨ret_int heq.out, rfl⟩
theorem rest_val (n a b r : Int) (w : World) (ha : 0 ≤ a) (h : a ≤ b) (hb : b ≤ 65535) (e : restF n a b = r) : Calls Try.prog 18 #[.int .i64 n, .int .i64 a, .int .i64 b] w fun e w' => e = .returned (.int .i64 r) ∧ w = w' := e ▸ rest_calls n a b w ha h hb
theorem bdn1 {B : Nat} {w W : World} (h : Below B w W) : Below B w W.drew := ⟨h.os, h.tape, h.output, h.size, h.block⟩
theorem Below.alloc' {B : Nat} {w W : World} (h : Below B w W) {o : Obj} (hB : B ≤ w.heap.size) : Below B w (W.alloc o) := h.alloc (Nat.le_trans hB h.size) o
/-- A region whose operations read and call quietly, but for those at its end. -/
theorem region_still_tail {P : Program} {id : Nat} {Q : Exit → Act → World → Prop} {a : Act} {w : World} {l : List Oper} (n : Nat) (hm : P.follows .mixedOrders = true) (hB : Region.lexTailB .any l.toArray n = true)
    (h : wpStill P l.toArray w.drew (fun a' => wpList P l.toArray Q (l.drop n) a' w.drew) (l.take n) a) : (Code.region id l.toArray true).wp P Q a w := wp_region_still_tail n hm hB h
/-- What bounded makes of any numbers. -/
def Cfg.made (c : Cfg) : Cfg :=
  let v := if c.v % 2 = 1 then 6 else 4
  let b := restF c.base (floorOf v) 65535
  ⟨v, b, restF c.most b 65535, restF c.tries 1 16, restF c.losses 1 64, restF c.wait 1 100, restF c.raise 1 1000⟩
theorem Cfg.made_ok (c : Cfg) : c.made.Ok ∧ c.made.wait ≤ 100 ∧ c.made.raise ≤ 1000 := by
  have h0 : floorOf c.made.v ≤ 65535 := by have := floor_pos c.made.v; omega
  have h1 := restF_in c.base (floorOf c.made.v) 65535 h0
  have h2 := restF_in c.most c.made.base 65535 h1.2
  have h3 := restF_in c.tries 1 16 (by decide)
  have h4 := restF_in c.losses 1 64 (by decide)
  have h5 := restF_in c.wait 1 100 (by decide)
  have h6 := restF_in c.raise 1 1000 (by decide)
  refine ⟨⟨?_, h1.1, h2.1, h2.2, h3, h4, ⟨h5.1, ?_⟩, ⟨h6.1, ?_⟩⟩, h5.2, h6.2⟩
  · show (if c.v % 2 = 1 then 6 else 4 : Int) = 4 ∨ (if c.v % 2 = 1 then 6 else 4 : Int) = 6
    split
    · exact .inr rfl
    · exact .inl rfl
  · exact Int.le_trans h5.2 (by decide)
  · exact Int.le_trans h6.2 (by decide)
set_option maxHeartbeats 4000000 in
set_option maxRecDepth 100000 in
theorem bounded_calls (c : Cfg) (w : World) : Calls Try.prog 16 #[c.val] w fun e w' => e = .returned c.made.val ∧ Below w.heap.size w w' := by
  have h0 : floorOf c.made.v ≤ 65535 := by have := floor_pos c.made.v; omega
  unfold Cfg.val
  by_cases hv : c.v % 2 = 1
  · have e1 : c.made.v = 6 := by show (if c.v % 2 = 1 then 6 else 4 : Int) = 6; rw [if_pos hv]
    have e2 : floorOf c.made.v = 1280 := by rw [e1]; rfl
    have e3 : restF c.base 1280 65535 = c.made.base := by rw [← e2]; rfl
    have b1 : 1280 ≤ c.made.base ∧ c.made.base ≤ 65535 := by have := restF_in c.base 1280 65535 (by decide); rw [e3] at this; exact this
    have E1 := Lib.hid e1
    have E3 := Lib.hid e3
    have hb : bits .and .i64 c.v 1 = 1 := by rw [and_one]; omega
    clear hv e1 e2 e3 h0
    go_enter Try.func16, Try.ntmps16
    go_wp2_with (go_at_call 18; refine (rest_val c.base 1280 65535 c.made.base _ (by decide) (by decide) (by decide) E3.out).mono ?_; rintro e w' ⟨rfl, rfl⟩)
    refine region_still_tail 19 (by kernel_rfl) (by kernel_rfl) ?_
    simp only [List.take_succ_cons, List.take_zero, List.drop_succ_cons, List.drop_zero]
    repeat still_step
    still_call ((rest_val c.most c.made.base 65535 c.made.most _ (by omega) (by omega) (by decide) rfl).mono fun _ _ h => ⟨h.1, h.2.symm⟩)
    repeat still_step
    still_call ((rest_val c.tries 1 16 c.made.tries _ (by decide) (by decide) (by decide) rfl).mono fun _ _ h => ⟨h.1, h.2.symm⟩)
    repeat still_step
    still_call ((rest_val c.losses 1 64 c.made.losses _ (by decide) (by decide) (by decide) rfl).mono fun _ _ h => ⟨h.1, h.2.symm⟩)
    repeat still_step
    still_call ((rest_val c.wait 1 100 c.made.wait _ (by decide) (by decide) (by decide) rfl).mono fun _ _ h => ⟨h.1, h.2.symm⟩)
    repeat still_step
    still_call ((rest_val c.raise 1 1000 c.made.raise _ (by decide) (by decide) (by decide) rfl).mono fun _ _ h => ⟨h.1, h.2.symm⟩)
    repeat still_step
    refine wpStill_nil ?_
    go_wp2
    refine bodyPost_ret (v := .agg #[.int .i64 6, .int .i64 c.made.base, .int .i64 c.made.most, .int .i64 c.made.tries, .int .i64 c.made.losses, .int .i64 c.made.wait, .int .i64 c.made.raise]) (by simp [results, Try.results16, go_sem]) rfl ⟨by rw [E1.out], ?_⟩
    repeat (first | exact Below.refl _ _ | exact Nat.le_refl _ | apply bdn1 | apply Below.alloc')
  · have e1 : c.made.v = 4 := by show (if c.v % 2 = 1 then 6 else 4 : Int) = 4; rw [if_neg hv]
    have e2 : floorOf c.made.v = 68 := by rw [e1]; rfl
    have e3 : restF c.base 68 65535 = c.made.base := by rw [← e2]; rfl
    have b1 : 68 ≤ c.made.base ∧ c.made.base ≤ 65535 := by have := restF_in c.base 68 65535 (by decide); rw [e3] at this; exact this
    have E1 := Lib.hid e1
    have E3 := Lib.hid e3
    have hb : bits .and .i64 c.v 1 = 0 := by rw [and_one]; omega
    clear hv e1 e2 e3 h0
    go_enter Try.func16, Try.ntmps16
    go_wp2_with (go_at_call 18; refine (rest_val c.base 68 65535 c.made.base _ (by decide) (by decide) (by decide) E3.out).mono ?_; rintro e w' ⟨rfl, rfl⟩)
    refine region_still_tail 19 (by kernel_rfl) (by kernel_rfl) ?_
    simp only [List.take_succ_cons, List.take_zero, List.drop_succ_cons, List.drop_zero]
    repeat still_step
    still_call ((rest_val c.most c.made.base 65535 c.made.most _ (by omega) (by omega) (by decide) rfl).mono fun _ _ h => ⟨h.1, h.2.symm⟩)
    repeat still_step
    still_call ((rest_val c.tries 1 16 c.made.tries _ (by decide) (by decide) (by decide) rfl).mono fun _ _ h => ⟨h.1, h.2.symm⟩)
    repeat still_step
    still_call ((rest_val c.losses 1 64 c.made.losses _ (by decide) (by decide) (by decide) rfl).mono fun _ _ h => ⟨h.1, h.2.symm⟩)
    repeat still_step
    still_call ((rest_val c.wait 1 100 c.made.wait _ (by decide) (by decide) (by decide) rfl).mono fun _ _ h => ⟨h.1, h.2.symm⟩)
    repeat still_step
    still_call ((rest_val c.raise 1 1000 c.made.raise _ (by decide) (by decide) (by decide) rfl).mono fun _ _ h => ⟨h.1, h.2.symm⟩)
    repeat still_step
    refine wpStill_nil ?_
    go_wp2
    refine bodyPost_ret (v := .agg #[.int .i64 4, .int .i64 c.made.base, .int .i64 c.made.most, .int .i64 c.made.tries, .int .i64 c.made.losses, .int .i64 c.made.wait, .int .i64 c.made.raise]) (by simp [results, Try.results16, go_sem]) rfl ⟨by rw [E1.out], ?_⟩
    repeat (first | exact Below.refl _ _ | exact Nat.le_refl _ | apply bdn1 | apply Below.alloc')
end Go.Proofs.Ytmanojnhjhpokaa.PB
