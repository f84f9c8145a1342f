/- Numbers, lines and lists of routes as texts: plain Lean, no program. -/
import Derived.Test.YtpaplobjmmpliaaDoorRk
import Derived.Test.YtpaplobjmmpliaaDoorBf
namespace Go.Proofs.YtpaplobjmmpliaaDoor.Ad
set_option linter.unusedVariables false
set_option linter.unusedSimpArgs false
open Go.RowKit W
def foldN : List UInt8 → Int → Option Int
  | [], acc => some acc
  | c :: l, acc => if (c.toNat : Int) < 48 ∨ 57 < (c.toNat : Int) then none else foldN l (acc * 10 + ((c.toNat : Int) - 48))
def numQ (l : List UInt8) : Option Int := if l.length < 1 ∨ 3 < l.length ∨ (1 < l.length ∧ (l.getD 0 0).toNat = 48) then none else foldN l 0
def ansN (o : Option Int) : Int := o.getD 0
/-- A line: a net, its length, a link. -/
def lineV (l : List UInt8) : Rt × Bool :=
  let a := Lib.cut l [47]
  let b := Lib.cut a.2.1 [32]
  (⟨ansA (readV a.1), ansN (numQ b.1), ansN (numQ b.2.1)⟩, a.2.2 && b.2.2 && (ansE (readV a.1) == 0) && (numQ b.1).isSome && (numQ b.2.1).isSome)
theorem foldN_in : ∀ (l : List UInt8) (acc n : Int), 0 ≤ acc → foldN l acc = some n → 0 ≤ n ∧ n < (acc + 1) * 10 ^ l.length
  | [], acc, n, h, e => by injection e with e; subst e; simp; omega
  | c :: l, acc, n, h, e => by
    unfold foldN at e
    split at e
    · cases e
    · rename_i hc
      have h1 := foldN_in l (acc * 10 + ((c.toNat : Int) - 48)) n (by omega) e
      refine ⟨h1.1, Int.lt_of_lt_of_le h1.2 ?_⟩
      rw [List.length_cons, Int.pow_succ, ← Int.mul_assoc, Int.mul_right_comm]
      exact Int.mul_le_mul_of_nonneg_right (by omega) (Int.pow_nonneg (by omega))
theorem numQ_in {l : List UInt8} {n : Int} (h : numQ l = some n) : 0 ≤ n ∧ n ≤ 999 := by
  unfold numQ at h
  split at h
  · cases h
  · rename_i hc
    have h1 := foldN_in l 0 n (by omega) h
    have h2 : (10 : Int) ^ l.length ≤ 1000 := by
      have : (10 : Nat) ^ l.length ≤ 10 ^ 3 := Nat.pow_le_pow_right (by omega) (by omega)
      have h2 : ((10 ^ l.length : Nat) : Int) ≤ ((10 ^ 3 : Nat) : Int) := by omega
      simpa using h2
    omega
theorem ansN_in (l : List UInt8) : 0 ≤ ansN (numQ l) ∧ ansN (numQ l) ≤ 999 := by
  unfold ansN
  cases h : numQ l with
  | none => simp
  | some n => exact numQ_in h
theorem i64_wf {n : Int} (h : -1000 ≤ n) (h2 : n ≤ 1000) : (Lit.int .i64 n).wf = true := by
  simp only [Lit.wf, IntKind.min, IntKind.max, IntKind.signed, IntKind.bits, Bool.and_eq_true, decide_eq_true_eq, if_true]
  omega
theorem read_v (l : List UInt8) : (ansA (readV l)).v = 0 ∨ (ansA (readV l)).v = 4 ∨ (ansA (readV l)).v = 6 := by
  cases h : readV l with
  | none => exact .inl rfl
  | some a =>
    unfold readV at h
    split at h
    · unfold read6 at h
      split at h
      · split at h
        · split at h
          · injection h with h; subst h; exact .inr (.inr rfl)
          · cases h
        · split at h
          · injection h with h; subst h; exact .inr (.inr rfl)
          · cases h
      · cases h
    · unfold read4 at h
      split at h
      · split at h
        · injection h with h; subst h; exact .inr (.inl rfl)
        · cases h
      · cases h
theorem lineV_wf (l : List UInt8) : (lineV l).1.wf where
  ok := readV_ok _
  v := by
    show (Lit.int .i64 (ansA (readV _)).v).wf = true
    rcases read_v (Lib.cut l [47]).1 with h | h | h <;> rw [h] <;> decide
  bits := by
    have := ansN_in (Lib.cut (Lib.cut l [47]).2.1 [32]).1
    exact i64_wf (by show _ ≤ ansN _; omega) (by show ansN _ ≤ _; omega)
  link := by
    have := ansN_in (Lib.cut (Lib.cut l [47]).2.1 [32]).2.1
    exact i64_wf (by show _ ≤ ansN _; omega) (by show ansN _ ≤ _; omega)
end Go.Proofs.YtpaplobjmmpliaaDoor.Ad
