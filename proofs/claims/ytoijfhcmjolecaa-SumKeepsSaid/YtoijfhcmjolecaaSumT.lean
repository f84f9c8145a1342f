/- The plain arithmetic of one's complement sums, with no program in it: 'osum n' is the folded sum of a plain sum n, 'psw w l' the plain sum of a list of bytes whose first weighs w (256 or 1). -/
namespace Go.Proofs.Ytoijfhcmjolecaa.SumT
set_option linter.unusedVariables false
set_option linter.unusedSimpArgs false

def osum (n : Int) : Int := if n = 0 then 0 else if n % 65535 = 0 then 65535 else n % 65535
def psw (w : Int) : List Int → Int
  | [] => 0
  | a :: t => w * a + psw (257 - w) t
abbrev psum (l : List Int) : Int := psw 256 l

theorem osum_le (n : Int) (h : 0 ≤ n) : 0 ≤ osum n ∧ osum n ≤ 65535 := by
  unfold osum; split
  · omega
  · split <;> omega
theorem osum_mod (n : Int) : osum n % 65535 = n % 65535 := by
  unfold osum; split
  · omega
  · split <;> omega
theorem osum_zero (n : Int) (h : 0 ≤ n) : osum n = 0 ↔ n = 0 := by
  unfold osum; split
  · omega
  · split <;> omega
/-- What is within 0 .. 65535, has n's rest and is 0 where n is: n's sum. -/
theorem osum_of {x n : Int} (h : 0 ≤ n) (h0 : 0 ≤ x) (h1 : x ≤ 65535) (hm : x % 65535 = n % 65535) (hz : x = 0 ↔ n = 0) : x = osum n := by
  unfold osum; split
  · omega
  · split <;> omega
theorem osum_eq {m n : Int} (h : 0 ≤ m) (h' : 0 ≤ n) (hm : m % 65535 = n % 65535) (hz : m = 0 ↔ n = 0) : osum m = osum n := by
  have h1 := osum_le m h
  have h2 := osum_mod m
  have h3 := osum_zero m h
  exact osum_of h' h1.1 h1.2 (by omega) (h3.trans hz)
theorem osum_small {n : Int} (h : 0 ≤ n) (h1 : n ≤ 65535) : osum n = n := (osum_of h h h1 rfl Iff.rfl).symm
/-- Of a sum of a sum: what was folded ahead does not matter. -/
theorem osum_add_l (m n : Int) (h : 0 ≤ m) (h' : 0 ≤ n) : osum (osum m + n) = osum (m + n) := by
  have h1 := osum_le m h
  have h2 := osum_mod m
  have h3 := osum_zero m h
  exact osum_eq (by omega) (by omega) (by omega) (by constructor <;> intro <;> omega)
theorem osum_add_r (m n : Int) (h : 0 ≤ m) (h' : 0 ≤ n) : osum (m + osum n) = osum (m + n) := by
  rw [Int.add_comm, osum_add_l n m h' h, Int.add_comm]
/-- The fold's step. -/
theorem osum_step {n : Int} (h : 65535 < n) : osum (n / 65536 + n % 65536) = osum n := by
  refine osum_eq (by omega) (by omega) ?_ (by constructor <;> intro <;> omega)
  have : n = 65535 * (n / 65536) + (n / 65536 + n % 65536) := by omega
  omega
/-- A word's two bytes in turned order. -/
def swap (b : Int) : Int := b % 256 * 256 + b / 256
theorem swap_le {b : Int} (h : 0 ≤ b) (h1 : b ≤ 65535) : 0 ≤ swap b ∧ swap b ≤ 65535 := by unfold swap; omega
theorem swap_mod {b : Int} (h : 0 ≤ b) (h1 : b ≤ 65535) : swap b % 65535 = (256 * b) % 65535 := by
  unfold swap
  have : 256 * b = 65535 * (b / 256) + (b % 256 * 256 + b / 256) := by omega
  omega
theorem swap_zero {b : Int} (h : 0 ≤ b) (h1 : b ≤ 65535) : swap b = 0 ↔ b = 0 := by unfold swap; constructor <;> intro <;> omega

/-- all bytes -/
def Bytes (l : List Int) : Prop := ∀ x ∈ l, 0 ≤ x ∧ x ≤ 255
theorem Bytes.nil : Bytes [] := fun _ h => by cases h
theorem Bytes.cons {a : Int} {l : List Int} (h : 0 ≤ a ∧ a ≤ 255) (k : Bytes l) : Bytes (a :: l) := fun x hx => by
  rcases List.mem_cons.1 hx with rfl | hx
  · exact h
  · exact k x hx
theorem Bytes.head {a : Int} {l : List Int} (h : Bytes (a :: l)) : 0 ≤ a ∧ a ≤ 255 := h a List.mem_cons_self
theorem Bytes.tail {a : Int} {l : List Int} (h : Bytes (a :: l)) : Bytes l := fun x hx => h x (List.mem_cons_of_mem _ hx)
theorem Bytes.append {l m : List Int} (h : Bytes l) (k : Bytes m) : Bytes (l ++ m) := fun x hx => by
  rcases List.mem_append.1 hx with hx | hx
  · exact h x hx
  · exact k x hx
theorem Bytes.take {l : List Int} (h : Bytes l) (n : Nat) : Bytes (l.take n) := fun x hx => h x (List.mem_of_mem_take hx)
theorem Bytes.drop {l : List Int} (h : Bytes l) (n : Nat) : Bytes (l.drop n) := fun x hx => h x (List.mem_of_mem_drop hx)
theorem Bytes.set {l : List Int} (h : Bytes l) (n : Nat) {a : Int} (ha : 0 ≤ a ∧ a ≤ 255) : Bytes (l.set n a) := fun x hx => by
  rcases List.mem_or_eq_of_mem_set hx with hx | rfl
  · exact h x hx
  · exact ha
theorem Bytes.get {l : List Int} (h : Bytes l) (n : Nat) : 0 ≤ l.getD n 0 ∧ l.getD n 0 ≤ 255 := by
  rw [List.getD_eq_getElem?_getD]
  by_cases hn : n < l.length
  · rw [List.getElem?_eq_getElem hn]; exact h _ (List.getElem_mem hn)
  · rw [List.getElem?_eq_none (by omega)]; simp

theorem psw_nonneg (l : List Int) (h : Bytes l) : 0 ≤ psw 256 l ∧ 0 ≤ psw 1 l := by
  induction l with
  | nil => simp [psw]
  | cons a t ih =>
    have := h.head
    have := ih h.tail
    simp only [psw, show (257 : Int) - 256 = 1 from rfl, show (257 : Int) - 1 = 256 from rfl]
    omega
theorem psw_le (l : List Int) (h : Bytes l) : psw 256 l ≤ 65280 * l.length ∧ psw 1 l ≤ 65280 * l.length := by
  induction l with
  | nil => simp [psw]
  | cons a t ih =>
    have := h.head
    have := ih h.tail
    simp only [psw, show (257 : Int) - 256 = 1 from rfl, show (257 : Int) - 1 = 256 from rfl, List.length_cons]
    omega
theorem psw_zero (l : List Int) (h : Bytes l) : (psw 256 l = 0 ↔ ∀ x ∈ l, x = 0) ∧ (psw 1 l = 0 ↔ ∀ x ∈ l, x = 0) := by
  induction l with
  | nil => simp [psw]
  | cons a t ih =>
    have h1 := h.head
    have h2 := ih h.tail
    have h3 := psw_nonneg t h.tail
    simp only [psw, show (257 : Int) - 256 = 1 from rfl, show (257 : Int) - 1 = 256 from rfl, List.mem_cons, forall_eq_or_imp]
    rw [← h2.1]
    constructor
    · constructor
      · intro e
        refine ⟨by omega, ?_⟩
        rw [h2.1, ← h2.2]; omega
      · rintro ⟨e, e'⟩
        rw [h2.1, ← h2.2] at e'; omega
    · constructor <;> intro <;> omega
/-- The other weight: 256 times as much, by rests. -/
theorem psw_swap (l : List Int) : psw 1 l % 65535 = (256 * psw 256 l) % 65535 := by
  induction l with
  | nil => simp [psw]
  | cons a t ih =>
    simp only [psw, show (257 : Int) - 256 = 1 from rfl, show (257 : Int) - 1 = 256 from rfl]
    omega
theorem psw_append (l m : List Int) : psw 256 (l ++ m) = psw 256 l + (if l.length % 2 = 0 then psw 256 m else psw 1 m) ∧ psw 1 (l ++ m) = psw 1 l + (if l.length % 2 = 0 then psw 1 m else psw 256 m) := by
  induction l with
  | nil => simp [psw]
  | cons a t ih =>
    simp only [List.cons_append, psw, show (257 : Int) - 256 = 1 from rfl, show (257 : Int) - 1 = 256 from rfl, List.length_cons]
    rw [ih.1, ih.2]
    by_cases e : t.length % 2 = 0
    · rw [if_pos e, if_pos e, if_neg (by omega), if_neg (by omega)]; omega
    · rw [if_neg e, if_neg e, if_pos (by omega), if_pos (by omega)]; omega
/-- One byte changed. -/
theorem psw_set (l : List Int) (n : Nat) (hn : n < l.length) (a : Int) : psw 256 (l.set n a) = psw 256 l + (if n % 2 = 0 then 256 else 1) * (a - l.getD n 0) ∧ psw 1 (l.set n a) = psw 1 l + (if n % 2 = 0 then 1 else 256) * (a - l.getD n 0) := by
  induction l generalizing n with
  | nil => simp at hn
  | cons b t ih =>
    cases n with
    | zero => simp [psw]; omega
    | succ n =>
      have := ih n (by simpa using hn)
      simp only [List.set_cons_succ, psw, show (257 : Int) - 256 = 1 from rfl, show (257 : Int) - 1 = 256 from rfl, List.getD_cons_succ]
      rw [this.1, this.2]
      by_cases e : n % 2 = 0
      · rw [if_pos e, if_pos e, if_neg (by omega), if_neg (by omega)]; omega
      · rw [if_neg e, if_neg e, if_pos (by omega), if_pos (by omega)]; omega
/-- The Part of a whole out of its pieces'. -/
theorem part_append (l m : List Int) (hl : Bytes l) (hm : Bytes m) : osum (psw 256 (l ++ m)) = osum (osum (psw 256 l) + (if l.length % 2 = 0 then osum (psw 256 m) else swap (osum (psw 256 m)))) := by
  have h1 := psw_nonneg l hl
  have h2 := psw_nonneg m hm
  have h3 := osum_le (psw 256 m) h2.1
  have h4 := osum_mod (psw 256 m)
  have h5 := osum_zero (psw 256 m) h2.1
  have h6 := swap_le h3.1 h3.2
  have h7 := swap_mod h3.1 h3.2
  have h8 := swap_zero h3.1 h3.2
  have h9 := psw_swap m
  have h10 := psw_zero m hm
  rw [(psw_append l m).1]
  by_cases e : l.length % 2 = 0
  · rw [if_pos e, if_pos e, osum_add_l _ _ h1.1 h3.1, osum_add_r _ _ h1.1 h2.1]
  · rw [if_neg e, if_neg e, osum_add_l _ _ h1.1 h6.1]
    refine osum_eq (by omega) (by omega) (by omega) ?_
    have : psw 1 m = 0 ↔ psw 256 m = 0 := h10.2.trans h10.1.symm
    constructor <;> intro <;> omega
end Go.Proofs.Ytoijfhcmjolecaa.SumT
