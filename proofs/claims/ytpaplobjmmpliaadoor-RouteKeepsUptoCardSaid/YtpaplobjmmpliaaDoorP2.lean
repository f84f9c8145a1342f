/- A text of groups is read as the address whose groups they are: plain Lean, no program. What a printer writes is read as the address: plain Lean, no program. The reference's line: by the places of its first slash and blank; the same routes: plain Lean, no program. Another order of the routes, and one route more: plain Lean, no program. A list of routes printed and read back: plain Lean, no program. -/
import Derived.Test.YtpaplobjmmpliaaDoorAo
import Derived.Test.YtpaplobjmmpliaaDoorAy
import Derived.Test.YtpaplobjmmpliaaDoorBb
import Derived.Test.YtpaplobjmmpliaaDoorP1
import Derived.Test.YtpaplobjmmpliaaDoorRn
import Derived.Test.YtpaplobjmmpliaaDoorRq
import Derived.Lib.IndexMore
namespace Go.Proofs.YtpaplobjmmpliaaDoor.Ad
set_option linter.unusedVariables false
set_option linter.unusedSimpArgs false
/-- Each colon stands between two that are none, or in front. -/
def clean : List UInt8 → Bool
  | [] => true
  | [c] => c != 58
  | c :: d :: l => !(c == 58 && d == 58) && clean (d :: l)
theorem clean_cons {c : UInt8} (h : c ≠ 58) : ∀ l, clean (c :: l) = clean l
  | [] => by simp [clean, h]
  | d :: l => by simp [clean, h]
theorem clean_app : ∀ (p q : List UInt8), 58 ∉ p → clean (p ++ q) = clean q
  | [], q, _ => rfl
  | c :: p, q, h => by
    have hc : c ≠ 58 := fun e => h (by rw [e]; exact List.mem_cons_self)
    rw [List.cons_append, clean_cons hc]
    exact clean_app p q fun hm => h (List.mem_cons_of_mem _ hm)
theorem clean_colon {d : UInt8} {l : List UInt8} (h : d ≠ 58) : clean (58 :: d :: l) = clean (d :: l) := by simp [clean, h]
theorem index_clean : ∀ (u t : List UInt8), clean u = true → Lib.index (u ++ 58 :: 58 :: t) [58, 58] = u.length
  | [], t, _ => by simp [Lib.index]
  | [c], t, h => by
    have hc : c ≠ 58 := by simpa [clean] using h
    have hc' : ¬ (58 : UInt8) = c := fun e => hc e.symm
    simp [Lib.index, hc', hc]
  | c :: d :: l, t, h => by
    simp only [clean, Bool.and_eq_true] at h
    have ih := index_clean (d :: l) t h.2
    have hcd : ¬ ((58 : UInt8) = c ∧ (58 : UInt8) = d) := fun ⟨e1, e2⟩ => by rw [← e1, ← e2] at h; simp at h
    have hp : List.isPrefixOf [58, 58] (c :: (d :: l ++ 58 :: 58 :: t)) = false := by
      simp only [List.cons_append, List.isPrefixOf, Bool.and_true, Bool.and_eq_false_iff]
      by_cases h1 : (58 : UInt8) = c
      · exact .inr (beq_eq_false_iff_ne.2 fun e => hcd ⟨h1, e⟩)
      · exact .inl (beq_eq_false_iff_ne.2 h1)
    rw [List.cons_append, Lib.index, hp, ih]
    simp
    omega
theorem index_clean_none : ∀ (u : List UInt8), clean u = true → Lib.index u [58, 58] = -1
  | [], _ => rfl
  | [c], h => by simp [Lib.index, List.isPrefixOf]
  | c :: d :: l, h => by
    simp only [clean, Bool.and_eq_true] at h
    have ih := index_clean_none (d :: l) h.2
    have hcd : ¬ ((58 : UInt8) = c ∧ (58 : UInt8) = d) := fun ⟨e1, e2⟩ => by rw [← e1, ← e2] at h; simp at h
    have hp : List.isPrefixOf [58, 58] (c :: d :: l) = false := by
      simp only [List.isPrefixOf, Bool.and_true, Bool.and_eq_false_iff]
      by_cases h1 : (58 : UInt8) = c
      · exact .inr (beq_eq_false_iff_ne.2 fun e => hcd ⟨h1, e⟩)
      · exact .inl (beq_eq_false_iff_ne.2 h1)
    rw [Lib.index, hp, ih]
    rfl
theorem cut_clean {u t : List UInt8} (h : clean u = true) : Lib.cut (u ++ 58 :: 58 :: t) [58, 58] = (u, t, true) := by
  unfold Lib.cut
  rw [index_clean u t h, if_pos (by omega)]
  simp
theorem cut_no {u : List UInt8} (h : clean u = true) : Lib.cut u [58, 58] = (u, [], false) := by
  unfold Lib.cut
  rw [index_clean_none u h, if_neg (by decide)]
/-- A text of one group. -/
structure HexOk (p : List UInt8) (v : Nat) : Prop where
  ne : p ≠ []
  le : p.length ≤ 4
  no : 58 ∉ p
  val : foldD 16 p 0 = v
theorem HexOk.num {p : List UInt8} {v : Nat} (h : HexOk p v) : numV p 16 4 = v := by
  unfold numV
  rw [if_neg (fun h0 => h.ne (List.eq_nil_of_length_eq_zero h0)), if_neg (by have := h.le; omega), h.val]
theorem join_two (p q : List UInt8) (X : List (List UInt8)) : Lib.join (p :: q :: X) [58] = p ++ 58 :: Lib.join (q :: X) [58] := by
  rw [Lib.join_cons, Lib.join_cons]; simp [Lib.joinTail]
/-- Texts of groups and what they are worth. -/
inductive Hexes : List (List UInt8) → List Nat → Prop
  | nil : Hexes [] []
  | cons {p : List UInt8} {v : Nat} {X : List (List UInt8)} {vs : List Nat} : HexOk p v → Hexes X vs → Hexes (p :: X) (v :: vs)
theorem Hexes.len {X : List (List UInt8)} {vs : List Nat} (h : Hexes X vs) : X.length = vs.length := by
  induction h with
  | nil => rfl
  | cons _ _ ih => simp [ih]
theorem join_head {X : List (List UInt8)} {vs : List Nat} (h : Hexes X vs) (hX : X ≠ []) : ∃ c l, Lib.join X [58] = c :: l ∧ c ≠ 58 := by
  cases h with
  | nil => exact absurd rfl hX
  | @cons p v X vs hp h =>
    obtain ⟨c, l, rfl⟩ : ∃ c l, p = c :: l := by cases p with | nil => exact absurd rfl hp.ne | cons c l => exact ⟨c, l, rfl⟩
    refine ⟨c, l ++ Lib.joinTail [58] X, by rw [Lib.join_cons]; rfl, fun e => hp.no (by rw [e]; exact List.mem_cons_self)⟩
theorem join_clean {X : List (List UInt8)} {vs : List Nat} (h : Hexes X vs) : clean (Lib.join X [58]) = true := by
  induction h with
  | nil => rfl
  | @cons p v X vs hp h ih =>
    cases X with
    | nil => rw [Lib.join_one]; have := clean_app p [] hp.no; simpa [clean] using this
    | cons q X =>
      rw [join_two, clean_app _ _ hp.no]
      obtain ⟨c, l, e, hc⟩ := join_head h (by simp)
      rw [e] at ih ⊢
      rw [clean_colon hc]; exact ih
theorem join_cuts {X : List (List UInt8)} {vs : List Nat} (h : Hexes X vs) (hX : X ≠ []) : cuts 58 (Lib.join X [58]) = X := by
  induction h with
  | nil => exact absurd rfl hX
  | @cons p v X vs hp h ih =>
    cases X with
    | nil => rw [Lib.join_one]; exact cuts_none 58 p hp.no
    | cons q X => rw [join_two, cuts_at 58 _ _ hp.no, ih (by simp)]
theorem nums_hexes {X : List (List UInt8)} {vs : List Nat} (h : Hexes X vs) : nums X = some (vs.map fun v : Nat => (v : Int)) := by
  induction h with
  | nil => rfl
  | @cons p v X vs hp h ih =>
    unfold nums
    rw [hp.num, if_neg (by omega), ih]; rfl
theorem groups_hexes {X : List (List UInt8)} {vs : List Nat} (h : Hexes X vs) : groupsV (Lib.join X [58]) = some (vs.map fun v : Nat => (v : Int)) := by
  unfold groupsV
  by_cases hX : X = []
  · subst hX; cases h; rfl
  · obtain ⟨c, l, e, _⟩ := join_head h hX
    rw [if_neg (by rw [e]; simp), join_cuts h hX, nums_hexes h]
theorem contains_colon (u t : List UInt8) : (u ++ 58 :: t).contains 58 = true := by simp
/-- With a gap. -/
theorem read_gap {X Y : List (List UInt8)} {xs ys : List Nat} (hx : Hexes X xs) (hy : Hexes Y ys) (h : xs.length + ys.length ≤ 7) :
    readV (Lib.join X [58] ++ [58, 58] ++ Lib.join Y [58]) = some (ofGroups (fill (xs.map fun v : Nat => (v : Int)) (ys.map fun v : Nat => (v : Int)))) := by
  have e : Lib.join X [58] ++ [58, 58] ++ Lib.join Y [58] = Lib.join X [58] ++ 58 :: 58 :: Lib.join Y [58] := by simp
  rw [e]
  unfold readV
  rw [if_pos (contains_colon _ _)]
  unfold read6
  rw [cut_clean (join_clean hx)]
  simp only [groups_hexes hx, groups_hexes hy]
  rw [if_pos trivial, if_pos (by simpa using h)]
/-- Without one. -/
theorem read_whole {X : List (List UInt8)} {xs : List Nat} (hx : Hexes X xs) (h : xs.length = 8) : readV (Lib.join X [58]) = some (ofGroups (xs.map fun v : Nat => (v : Int))) := by
  have hc : (Lib.join X [58]).contains 58 = true := by
    have hl := hx.len
    match X, hl with
    | [], hl => simp at hl; omega
    | [p], hl => simp at hl; omega
    | p :: q :: X, hl => rw [join_two]; exact contains_colon _ _
  unfold readV
  rw [if_pos hc]
  unfold read6
  rw [cut_no (join_clean hx)]
  have h0 : groupsV [] = some [] := rfl
  simp only [groups_hexes hx, h0]
  rw [if_neg (by decide), if_pos (by simpa using h)]
  congr 2
  unfold fill
  simp [h]
end Go.Proofs.YtpaplobjmmpliaaDoor.Ad
namespace Go.Proofs.YtpaplobjmmpliaaDoor.Ad
set_option linter.unusedVariables false
set_option linter.unusedSimpArgs false
/-- A digit in lower or upper case. -/
theorem valid_v {a : Addr} (h : a.valid = true) : a.v = 4 ∨ a.v = 6 := by
  have := nb_valid h
  unfold Addr.nb at this
  by_cases h4 : a.v = 4
  · exact .inl h4
  · rw [if_neg h4] at this
    by_cases h6 : a.v = 6
    · exact .inr h6
    · rw [if_neg h6] at this; exact absurd rfl this
theorem nb_four {a : Addr} (h : a.valid = true) (h4 : a.v = 4) : a.nb = 32 ∧ (a.b.drop 4).all (· == 0) = true := by
  have := nb_valid h
  unfold Addr.nb at this ⊢
  rw [if_pos h4] at this ⊢
  by_cases hz : (a.b.drop 4).all (· == 0) = true
  · rw [if_pos hz]; exact ⟨rfl, hz⟩
  · rw [if_neg hz] at this; exact absurd rfl this
theorem tail_zero {a : Addr} (ha : a.ok) (h : a.valid = true) (h4 : a.v = 4) (i : Nat) (h1 : 4 ≤ i) (h2 : i < 16) : a.b.getD i 0 = 0 := by
  have hz := (nb_four h h4).2
  rw [List.all_eq_true] at hz
  unfold Addr.ok at ha
  have := hz (a.b[i]'(by omega)) (List.mem_iff_getElem.2 ⟨i - 4, by simp; omega, by simp; congr 1; omega⟩)
  rw [List.getD_eq_getElem?_getD, List.getElem?_eq_getElem (by omega)]
  simpa using this
def dig (up : Bool) (k : Nat) : UInt8 := if up = true ∧ 9 < k then UInt8.ofNat (55 + k) else digC k
theorem dig_ok : ∀ (up : Bool) (k : Fin 16), digitV (dig up k.val) = k.val ∧ dig up k.val ≠ 58 := by decide +kernel
/-- The digits of n to the base 16, m of them at least. -/
def hexR (up : Bool) (n m : Nat) : List UInt8 := if h : n = 0 ∧ m = 0 then [] else hexR up (n / 16) (m - 1) ++ [dig up (n % 16)]
termination_by n + m
decreasing_by
  by_cases h0 : n = 0
  · omega
  · have := Nat.div_lt_self (show 0 < n by omega) (show 1 < 16 by omega); omega
theorem hexR_zero (up : Bool) : hexR up 0 0 = [] := by rw [hexR, dif_pos ⟨rfl, rfl⟩]
theorem hexR_more (up : Bool) {n m : Nat} (h : ¬ (n = 0 ∧ m = 0)) : hexR up n m = hexR up (n / 16) (m - 1) ++ [dig up (n % 16)] := by rw [hexR, dif_neg h]
theorem hexR_ind {P : Nat → Nat → Prop} (h0 : P 0 0) (hs : ∀ n m, ¬ (n = 0 ∧ m = 0) → P (n / 16) (m - 1) → P n m) : ∀ n m, P n m := by
  have : ∀ k n m, n + m ≤ k → P n m := by
    intro k
    induction k with
    | zero => intro n m h; obtain ⟨rfl, rfl⟩ : n = 0 ∧ m = 0 := by omega
              exact h0
    | succ k ih =>
      intro n m h
      by_cases hz : n = 0 ∧ m = 0
      · obtain ⟨rfl, rfl⟩ := hz; exact h0
      · refine hs n m hz (ih _ _ ?_)
        by_cases hn : n = 0
        · omega
        · have := Nat.div_lt_self (show 0 < n by omega) (show 1 < 16 by omega); omega
  exact fun n m => this _ n m (Nat.le_refl _)
theorem foldD_app {base : Int} : ∀ (l r : List UInt8) (acc : Int), (∀ c ∈ l, digitV c < base) → foldD base (l ++ r) acc = foldD base r (foldD base l acc)
  | [], r, acc, _ => rfl
  | c :: l, r, acc, h => by
    have hc := h c List.mem_cons_self
    rw [List.cons_append, foldD, foldD, if_neg (by omega), if_neg (by omega)]
    exact foldD_app l r _ fun d hd => h d (List.mem_cons_of_mem _ hd)
theorem hexR_all (up : Bool) (n m : Nat) : ∀ c ∈ hexR up n m, digitV c < 16 ∧ c ≠ 58 := by
  refine hexR_ind (P := fun n m => ∀ c ∈ hexR up n m, digitV c < 16 ∧ c ≠ 58) ?_ ?_ n m
  · rw [hexR_zero]; intro c hc; cases hc
  · intro n m h ih c hc
    rw [hexR_more up h] at hc
    rcases List.mem_append.1 hc with hc | hc
    · exact ih c hc
    · obtain rfl := List.mem_singleton.1 hc
      have hl := Nat.mod_lt n (show 0 < 16 by omega)
      have := dig_ok up ⟨n % 16, hl⟩
      exact ⟨by have h1 := this.1; simp only at h1; rw [h1]; omega, this.2⟩
theorem hexR_val (up : Bool) (n m : Nat) : foldD 16 (hexR up n m) 0 = n := by
  refine hexR_ind (P := fun n m => foldD 16 (hexR up n m) 0 = n) ?_ ?_ n m
  · rw [hexR_zero]; rfl
  · intro n m h ih
    rw [hexR_more up h, foldD_app _ _ _ fun c hc => (hexR_all up _ _ c hc).1, ih]
    have hl := Nat.mod_lt n (show 0 < 16 by omega)
    have h1 := (dig_ok up ⟨n % 16, hl⟩).1
    simp only at h1
    rw [foldD, h1, if_neg (by omega), foldD]
    omega
theorem hexR_len (up : Bool) : ∀ k n m, n < 16 ^ k → (hexR up n m).length ≤ max m k
  | 0, n, m, h => by
    obtain rfl : n = 0 := by simp at h; exact h
    induction m with
    | zero => rw [hexR_zero]; simp
    | succ m ih => rw [hexR_more up (by omega)]; simp at ih ⊢; exact ih
  | k + 1, n, m, h => by
    by_cases hz : n = 0 ∧ m = 0
    · obtain ⟨rfl, rfl⟩ := hz; rw [hexR_zero]; simp
    · rw [hexR_more up hz]
      have := hexR_len up k (n / 16) (m - 1) (by rw [Nat.pow_succ] at h; omega)
      simp; omega
theorem hexR_ok (up : Bool) {n m : Nat} (hn : n < 65536) (h1 : 1 ≤ m) (h4 : m ≤ 4) : HexOk (hexR up n m) n where
  ne := by rw [hexR_more up (by omega)]; simp
  le := by have := hexR_len up 4 n m (by omega); omega
  no := fun h => (hexR_all up n m _ h).2 rfl
  val := hexR_val up n m
theorem dig_low (k : Nat) : dig false k = digC k := by unfold dig; rw [if_neg (by simp)]
theorem textB_hex (n : Nat) : textB 16 n = hexR false n 1 := by
  induction n using Nat.strongRecOn with
  | _ n ih =>
    rw [hexR_more false (by omega), dig_low]
    by_cases h : n < 16
    · rw [textB_one h, Nat.div_eq_of_lt h, Nat.mod_eq_of_lt h, hexR_zero]; rfl
    · rw [textB_more (by omega) (by omega), ih _ (Nat.div_lt_self (by omega) (by omega))]
      have h0 : ¬ n / 16 = 0 := by omega
      rw [hexR_more false (n := n / 16) (m := 1) (by omega), hexR_more false (n := n / 16) (m := 1 - 1) (by omega)]
theorem textB_ok {n : Nat} (hn : n < 65536) : HexOk (textB 16 n) n := by rw [textB_hex]; exact hexR_ok false hn (by omega) (by omega)
/-- n groups from the i-th on, each by its text. -/
def joinT (T : Nat → List UInt8) (i n : Nat) : List UInt8 := Lib.join ((List.range' i n).map T) [58]
theorem hexes_range {b : List UInt8} {T : Nat → List UInt8} (h : ∀ k, HexOk (T k) (grp b k)) : ∀ n i, Hexes ((List.range' i n).map T) ((List.range' i n).map (grp b))
  | 0, i => .nil
  | n + 1, i => by rw [List.range'_succ]; exact .cons (h i) (hexes_range h n (i + 1))
theorem groups_all {b : List UInt8} (hb : b.length = 16) : ofGroups (((List.range' 0 8).map (grp b)).map fun v : Nat => (v : Int)) = ⟨6, b⟩ := by
  unfold ofGroups
  congr 1
  refine ext16 (partF_len _ _) hb fun i hi => ?_
  rw [partF_at _ _ _ hi, if_pos hi]
  have hg : (((List.range' 0 8).map (grp b)).map fun v : Nat => (v : Int)).getD (i / 2) 0 = (grp b (i / 2) : Nat) := by
    rw [List.getD_eq_getElem?_getD, List.getElem?_map, List.getElem?_map, List.getElem?_range' (by omega)]
    simp
  unfold groupB
  rw [hg]
  have h0 := (b.getD (2 * (i / 2)) 0).toNat_lt
  have h1 := (b.getD (2 * (i / 2) + 1) 0).toNat_lt
  by_cases he : i % 2 = 0
  · rw [if_pos he]
    apply UInt8.toNat.inj
    rw [UInt8.toNat_ofNat']
    unfold grp
    rw [show 2 * (i / 2) = i by omega] at h0 h1 ⊢
    omega
  · rw [if_neg he]
    apply UInt8.toNat.inj
    rw [UInt8.toNat_ofNat']
    unfold grp
    rw [show 2 * (i / 2) + 1 = i by omega] at h1 ⊢
    omega
theorem read_long {b : List UInt8} (hb : b.length = 16) {T : Nat → List UInt8} (h : ∀ k, HexOk (T k) (grp b k)) : readV (joinT T 0 8) = some ⟨6, b⟩ := by
  unfold joinT
  rw [read_whole (hexes_range h 8 0) (by simp), groups_all hb]
theorem read_short {b : List UInt8} (hb : b.length = 16) {T : Nat → List UInt8} (h : ∀ k, HexOk (T k) (grp b k)) {f m : Nat} (hm : 1 ≤ m) (hf : f + m ≤ 8) (hz : ∀ j, j < m → grp b (f + j) = 0) :
    readV (joinT T 0 f ++ [58, 58] ++ joinT T (f + m) (8 - (f + m))) = some ⟨6, b⟩ := by
  unfold joinT
  rw [read_gap (hexes_range h f 0) (hexes_range h (8 - (f + m)) (f + m)) (by simp; omega), ← groups_all hb]
  congr 2
  unfold fill
  have hr : List.range' 0 8 = List.range' 0 f ++ List.range' f m ++ List.range' (f + m) (8 - (f + m)) := by
    have e1 : List.range' 0 8 = List.range' 0 (f + m) ++ List.range' (0 + 1 * (f + m)) (8 - (f + m)) := by rw [List.range'_append]; congr 1; omega
    have e2 : List.range' 0 (f + m) = List.range' 0 f ++ List.range' (0 + 1 * f) m := by rw [List.range'_append]
    rw [e1, e2]; simp
  rw [hr]
  simp only [List.map_append, List.length_map, List.length_range']
  congr 2
  apply List.ext_getElem?
  intro j
  by_cases hj : j < m
  · rw [List.getElem?_replicate, if_pos (by omega), List.getElem?_map, List.getElem?_map, List.getElem?_range' hj]
    simp [hz j hj]
  · rw [List.getElem?_eq_none (by simp; omega), List.getElem?_eq_none (by simp; omega)]
/-- The text of version 6 is read as the address. -/
theorem read_print6 {b : List UInt8} (hb : b.length = 16) : readV (print6 b) = some ⟨6, b⟩ := by
  have hT : ∀ k, HexOk (textB 16 (grp b k)) (grp b k) := fun k => textB_ok (grp_lt b k)
  unfold print6
  rcases best_fits b with h | ⟨h1, h2, h3⟩
  · rw [h, if_pos rfl]
    exact read_long hb hT
  · rw [if_neg (by omega)]
    exact read_short hb hT (by omega) h2 fun j hj => (runV_at b j _ (by omega)).2
/-- The text of version 4. -/
theorem dec_ok : ∀ k : Fin 256, decOk (textB 10 k.val) = true ∧ numV (textB 10 k.val) 10 3 = k.val ∧ 46 ∉ textB 10 k.val ∧ 58 ∉ textB 10 k.val := by decide +kernel
theorem dec_at (x : UInt8) : decOk (textB 10 x.toNat) = true ∧ numV (textB 10 x.toNat) 10 3 = x.toNat ∧ 46 ∉ textB 10 x.toNat ∧ 58 ∉ textB 10 x.toNat := dec_ok ⟨x.toNat, x.toNat_lt⟩
theorem read_print4 {a : Addr} (ha : a.ok) (hv : a.valid = true) (h4 : a.v = 4) : readV (print4 a.b) = some a := by
  obtain ⟨b0, n0, d0, c0⟩ := dec_at (a.b.getD 0 0)
  obtain ⟨b1, n1, d1, c1⟩ := dec_at (a.b.getD 1 0)
  obtain ⟨b2, n2, d2, c2⟩ := dec_at (a.b.getD 2 0)
  obtain ⟨b3, n3, d3, c3⟩ := dec_at (a.b.getD 3 0)
  have hc : (print4 a.b).contains 58 = false := by
    rw [print4_out, Bool.eq_false_iff]
    intro h
    rw [List.contains_iff_mem] at h
    simp only [List.mem_append, List.mem_singleton] at h
    rcases h with (((((h | h) | h) | h) | h) | h) | h
    · exact c0 h
    · exact absurd h (by decide)
    · exact c1 h
    · exact absurd h (by decide)
    · exact c2 h
    · exact absurd h (by decide)
    · exact c3 h
  have hcut : cuts 46 (print4 a.b) = [textB 10 (a.b.getD 0 0).toNat, textB 10 (a.b.getD 1 0).toNat, textB 10 (a.b.getD 2 0).toNat, textB 10 (a.b.getD 3 0).toNat] := by
    rw [print4_out]
    simp only [List.append_assoc, List.singleton_append, List.cons_append, List.nil_append]
    rw [cuts_at 46 _ _ d0, cuts_at 46 _ _ d1, cuts_at 46 _ _ d2, cuts_none 46 _ d3]
  unfold readV
  rw [if_neg (by rw [hc]; decide)]
  unfold read4
  rw [hcut, if_pos (by rfl), if_pos (by simp only [List.all_cons, List.all_nil, b0, b1, b2, b3, Bool.and_true])]
  congr 1
  have e : partF (decB [textB 10 (a.b.getD 0 0).toNat, textB 10 (a.b.getD 1 0).toNat, textB 10 (a.b.getD 2 0).toNat, textB 10 (a.b.getD 3 0).toNat]) 4 = a.b := ext16 (partF_len _ _) ha fun i hi => by
    rw [partF_at _ _ _ hi]
    by_cases h : i < 4
    · rw [if_pos h]
      have : i = 0 ∨ i = 1 ∨ i = 2 ∨ i = 3 := by omega
      rcases this with rfl | rfl | rfl | rfl
      · show UInt8.ofNat (numV (textB 10 (a.b.getD 0 0).toNat) 10 3).toNat = _; rw [n0, Int.toNat_natCast, UInt8.ofNat_toNat]
      · show UInt8.ofNat (numV (textB 10 (a.b.getD 1 0).toNat) 10 3).toNat = _; rw [n1, Int.toNat_natCast, UInt8.ofNat_toNat]
      · show UInt8.ofNat (numV (textB 10 (a.b.getD 2 0).toNat) 10 3).toNat = _; rw [n2, Int.toNat_natCast, UInt8.ofNat_toNat]
      · show UInt8.ofNat (numV (textB 10 (a.b.getD 3 0).toNat) 10 3).toNat = _; rw [n3, Int.toNat_natCast, UInt8.ofNat_toNat]
    · rw [if_neg h, tail_zero ha hv h4 i (by omega) hi]
  rw [e, ← h4]
theorem read_print {a : Addr} (ha : a.ok) (hv : a.valid = true) : readV (printV a) = some a := by
  unfold printV
  rw [if_pos hv]
  rcases valid_v hv with h | h
  · rw [if_pos h]; exact read_print4 ha hv h
  · rw [if_neg (by omega), read_print6 ha, ← h]
end Go.Proofs.YtpaplobjmmpliaaDoor.Ad
namespace Go.Proofs.YtpaplobjmmpliaaDoor.Ad
set_option linter.unusedVariables false
set_option linter.unusedSimpArgs false
open Go.RowKit W
theorem cuts_mem (c x : UInt8) (hx : x ≠ c) : ∀ l, x ∈ l → ∃ p ∈ cuts c l, x ∈ p
  | [], h => by cases h
  | y :: l, h => by
    by_cases e : y = c
    · have hl : x ∈ l := by
        rcases List.mem_cons.1 h with h | h
        · exact absurd (h.trans e) hx
        · exact h
      obtain ⟨p, h1, h2⟩ := cuts_mem c x hx l hl
      exact ⟨p, by rw [cuts, if_pos e]; exact List.mem_cons_of_mem _ h1, h2⟩
    · rw [cuts, if_neg e]
      cases e2 : cuts c l with
      | nil => exact absurd e2 (cuts_ne c l)
      | cons q r =>
        rcases List.mem_cons.1 h with h | h
        · exact ⟨y :: q, List.mem_cons_self, by rw [h]; exact List.mem_cons_self⟩
        · obtain ⟨p, h1, h2⟩ := cuts_mem c x hx l h
          rw [e2] at h1
          rcases List.mem_cons.1 h1 with rfl | h1
          · exact ⟨y :: p, List.mem_cons_self, List.mem_cons_of_mem _ h2⟩
          · exact ⟨p, List.mem_cons_of_mem _ h1, h2⟩
theorem fold_no {base : Int} {x : UInt8} (hx : base ≤ digitV x) : ∀ (l : List UInt8) (acc : Int), x ∈ l → foldD base l acc = -1
  | [], acc, h => by cases h
  | y :: l, acc, h => by
    unfold foldD
    by_cases hy : base ≤ digitV y
    · rw [if_pos hy]
    · rw [if_neg hy]
      rcases List.mem_cons.1 h with h | h
      · rw [h] at hx; exact absurd hx hy
      · exact fold_no hx l _ h
theorem num_no {base most : Int} {x : UInt8} (hx : base ≤ digitV x) {p : List UInt8} (h : x ∈ p) : numV p base most = -1 := by
  unfold numV
  split
  · rfl
  · split
    · rfl
    · exact fold_no hx p 0 h
theorem groups_clean {l : List UInt8} {g : List Int} (h : groupsV l = some g) : (32 : UInt8) ∉ l := fun hm => by
  unfold groupsV at h
  split at h
  · rename_i h0; rw [h0] at hm; cases hm
  · obtain ⟨p, h1, h2⟩ := cuts_mem 58 32 (by decide) l hm
    rw [nums_bad (by rw [num_no (x := 32) (by decide) h2]; decide) _ h1] at h
    cases h
theorem cut_two {l : List UInt8} {x : UInt8} (hx : x ≠ 58) (h : x ∈ l) : x ∈ (Lib.cut l dd).1 ∨ x ∈ (Lib.cut l dd).2.1 := by
  by_cases hj : ∃ j, j ≤ l.length ∧ Lib.occAt l dd j = true
  · have hmin : ∃ i, i ≤ l.length ∧ Lib.occAt l dd i = true ∧ ∀ j, j < i → Lib.occAt l dd j = false := by
      obtain ⟨j, hjl, hjo⟩ := hj
      induction j using Nat.strongRecOn with
      | _ j ih =>
        by_cases hk : ∃ k, k < j ∧ Lib.occAt l dd k = true
        · obtain ⟨k, h1, h2⟩ := hk
          exact ih k h1 (by omega) h2
        · exact ⟨j, hjl, hjo, fun k hk2 => by
            cases h3 : Lib.occAt l dd k with
            | false => rfl
            | true => exact absurd ⟨k, hk2, h3⟩ hk⟩
    obtain ⟨i, h1, h2, h3⟩ := hmin
    rw [cut_at h1 h2 h3]
    obtain ⟨R, h4, h5⟩ := occ_split h2
    rw [h4] at h
    rcases List.mem_append.1 h with h | h
    · exact .inl h
    · rcases List.mem_cons.1 h with h | h
      · exact absurd h hx
      · rcases List.mem_cons.1 h with h | h
        · exact absurd h hx
        · exact .inr (by show x ∈ l.drop (i + 2); rw [← h5]; exact h)
  · rw [cut_none fun j hjl => by
      cases h3 : Lib.occAt l dd j with
      | false => rfl
      | true => exact absurd ⟨j, hjl, h3⟩ hj]
    exact .inl h
theorem read6_clean {l : List UInt8} {a : Addr} (h : read6 l = some a) : (32 : UInt8) ∉ l := fun hm => by
  unfold read6 at h
  split at h
  · rename_i x y h1 h2
    rcases cut_two (by decide) hm with h3 | h3
    · exact groups_clean h1 h3
    · exact groups_clean h2 h3
  · cases h
theorem decOk_num {p : List UInt8} (h : decOk p = true) : 0 ≤ numV p 10 3 := by
  unfold decOk at h
  simp only [Bool.and_eq_true, decide_eq_true_eq] at h
  exact h.1.1
theorem read4_clean {l : List UInt8} {a : Addr} (h : read4 l = some a) : (32 : UInt8) ∉ l := fun hm => by
  unfold read4 at h
  split at h
  · split at h
    · rename_i h1
      obtain ⟨p, h2, h3⟩ := cuts_mem 46 32 (by decide) l hm
      have h4 := decOk_num (List.all_eq_true.1 h1 p h2)
      rw [num_no (x := 32) (by decide) h3] at h4
      exact absurd h4 (by decide)
    · cases h
  · cases h
/-- No blank. -/
theorem read_clean {l : List UInt8} {a : Addr} (h : readV l = some a) : (32 : UInt8) ∉ l := by
  unfold readV at h
  split at h
  · exact read6_clean h
  · exact read4_clean h
theorem index_at {c : UInt8} : ∀ {A R : List UInt8}, c ∉ A → Lib.index (A ++ c :: R) [c] = A.length := by
  intro A
  induction A with
  | nil => intro R _; simp [Lib.index]
  | cons x A ih =>
    intro R h
    have h1 : x ≠ c := fun e => h (by rw [e]; exact List.mem_cons_self)
    have h2 := ih (R := R) fun hm => h (List.mem_cons_of_mem _ hm)
    have hp : [c].isPrefixOf (x :: (A ++ c :: R)) = false := by simp [List.isPrefixOf, Ne.symm h1]
    rw [List.cons_append, Lib.index, hp, h2]
    simp
theorem cut1_at {c : UInt8} {A R : List UInt8} (h : c ∉ A) : Lib.cut (A ++ c :: R) [c] = (A, R, true) := by
  unfold Lib.cut
  rw [index_at h, if_pos (by omega)]
  simp
theorem cut1_none {c : UInt8} {l : List UInt8} (h : c ∉ l) : Lib.cut l [c] = (l, [], false) := by
  unfold Lib.cut
  rw [index_none c l h, if_neg (by decide)]
/-- The place of the first byte c; -1: there is none. -/
def placeV (l : List UInt8) (c : UInt8) : Int := if c ∈ l then (l.idxOf c : Nat) else -1
theorem split_at {c : UInt8} {l : List UInt8} (h : c ∈ l) : ∃ A R, l = A ++ c :: R ∧ c ∉ A := List.eq_append_cons_of_mem h
theorem idx_at {c : UInt8} : ∀ {A R : List UInt8}, c ∉ A → (A ++ c :: R).idxOf c = A.length := by
  intro A
  induction A with
  | nil => intro R _; simp
  | cons x A ih =>
    intro R h
    have h1 : x ≠ c := fun e => h (by rw [e]; exact List.mem_cons_self)
    rw [List.cons_append, List.idxOf_cons, beq_eq_false_iff_ne.2 h1, ih fun hm => h (List.mem_cons_of_mem _ hm)]
    simp
theorem place_at {c : UInt8} {A R : List UInt8} (h : c ∉ A) : placeV (A ++ c :: R) c = A.length := by
  unfold placeV; rw [if_pos (by simp), idx_at h]
theorem place_none {c : UInt8} {l : List UInt8} (h : c ∉ l) : placeV l c = -1 := if_neg h
def numR (l : List UInt8) : Int := (numQ l).getD (-1)
def lineR (l : List UInt8) : Rt × Bool :=
  if placeV l 47 < 0 ∨ placeV l 32 < placeV l 47 then (zeroRt, false)
  else (⟨ansA (readV (l.take (placeV l 47).toNat)), numR ((l.take (placeV l 32).toNat).drop ((placeV l 47).toNat + 1)), numR (l.drop ((placeV l 32).toNat + 1))⟩,
    (ansE (readV (l.take (placeV l 47).toNat)) == 0) && decide (0 ≤ numR ((l.take (placeV l 32).toNat).drop ((placeV l 47).toNat + 1))) && decide (0 ≤ numR (l.drop ((placeV l 32).toNat + 1))))
theorem numR_some (l : List UInt8) : decide (0 ≤ numR l) = (numQ l).isSome := by
  unfold numR
  cases h : numQ l with
  | none => rfl
  | some n => have := (numQ_in h).1; simpa using this
theorem numR_ans {l : List UInt8} (h : (numQ l).isSome = true) : numR l = ansN (numQ l) := by
  unfold numR ansN
  cases h2 : numQ l with
  | none => rw [h2] at h; cases h
  | some n => rfl
theorem line_same (l : List UInt8) : (lineR l).2 = (lineV l).2 ∧ ((lineV l).2 = true → (lineR l).1 = (lineV l).1) := by
  by_cases h1 : (47 : UInt8) ∈ l
  · obtain ⟨A, R, rfl, hA⟩ := split_at h1
    have c1 := cut1_at (R := R) hA
    have p1 := place_at (R := R) hA
    by_cases h2 : (32 : UInt8) ∈ A
    · have hr : readV A = none := by
        cases h : readV A with
        | none => rfl
        | some a => exact absurd h2 (read_clean h)
      have hV : (lineV (A ++ 47 :: R)).2 = false := by
        unfold lineV
        rw [c1]
        simp [hr, ansE]
      obtain ⟨B, C, hBC, hB⟩ := split_at h2
      have p2 : placeV (A ++ 47 :: R) 32 = B.length := by
        rw [hBC, List.append_assoc, List.cons_append]; exact place_at hB
      have hl : B.length < A.length := by rw [hBC]; simp
      have hR : lineR (A ++ 47 :: R) = (zeroRt, false) := by
        unfold lineR
        rw [if_pos (by rw [p1, p2]; omega)]
      rw [hR, hV]
      exact ⟨rfl, fun h => by cases h⟩
    · by_cases h3 : (32 : UInt8) ∈ R
      · obtain ⟨B, C, rfl, hB⟩ := split_at h3
        have c2 := cut1_at (R := C) hB
        have e : A ++ 47 :: (B ++ 32 :: C) = (A ++ 47 :: B) ++ 32 :: C := by simp
        have p2 : placeV (A ++ 47 :: (B ++ 32 :: C)) 32 = ((A.length + 1 + B.length : Nat) : Int) := by
          rw [e, place_at (by simp only [List.mem_append, List.mem_cons, not_or]; exact ⟨h2, by decide, hB⟩)]
          simp; omega
        have hR : lineR (A ++ 47 :: (B ++ 32 :: C)) = (⟨ansA (readV A), numR B, numR C⟩, (ansE (readV A) == 0) && decide (0 ≤ numR B) && decide (0 ≤ numR C)) := by
          unfold lineR
          rw [if_neg (by rw [p1, p2]; omega), p1, p2, Int.toNat_natCast, Int.toNat_natCast]
          have t1 : (A ++ 47 :: (B ++ 32 :: C)).take A.length = A := List.take_left
          have t2 : (A ++ 47 :: (B ++ 32 :: C)).take (A.length + 1 + B.length) = A ++ 47 :: B := by
            rw [e]; exact List.take_left' (by simp; omega)
          have t3 : (A ++ 47 :: B).drop (A.length + 1) = B := by
            have : A ++ 47 :: B = (A ++ [47]) ++ B := by simp
            rw [this]; exact List.drop_left' (by simp)
          have t4 : (A ++ 47 :: (B ++ 32 :: C)).drop (A.length + 1 + B.length + 1) = C := by
            have : A ++ 47 :: (B ++ 32 :: C) = (A ++ 47 :: B ++ [32]) ++ C := by simp
            rw [this]; exact List.drop_left' (by simp; omega)
          rw [t1, t2, t3, t4]
        have hV : lineV (A ++ 47 :: (B ++ 32 :: C)) = (⟨ansA (readV A), ansN (numQ B), ansN (numQ C)⟩, true && true && (ansE (readV A) == 0) && (numQ B).isSome && (numQ C).isSome) := by
          unfold lineV
          rw [c1]
          simp only
          rw [c2]
        rw [hR, hV, numR_some, numR_some]
        refine ⟨by simp, fun h => ?_⟩
        simp only [Bool.and_eq_true] at h
        show (⟨_, numR B, numR C⟩ : Rt) = ⟨_, ansN (numQ B), ansN (numQ C)⟩
        rw [numR_ans h.1.2, numR_ans h.2]
      · have c2 := cut1_none h3
        have p2 : placeV (A ++ 47 :: R) 32 = -1 := place_none (by simp only [List.mem_append, List.mem_cons, not_or]; exact ⟨h2, by decide, h3⟩)
        have hR : lineR (A ++ 47 :: R) = (zeroRt, false) := by
          unfold lineR
          rw [if_pos (by rw [p1, p2]; omega)]
        have hV : (lineV (A ++ 47 :: R)).2 = false := by
          unfold lineV
          rw [c1]
          simp only
          rw [c2]
          simp
        rw [hR, hV]
        exact ⟨rfl, fun h => by cases h⟩
  · have c1 := cut1_none h1
    have hR : lineR l = (zeroRt, false) := by
      unfold lineR
      rw [if_pos (by rw [place_none h1]; omega)]
    have hV : (lineV l).2 = false := by
      unfold lineV
      rw [c1]
      simp
    rw [hR, hV]
    exact ⟨rfl, fun h => by cases h⟩
end Go.Proofs.YtpaplobjmmpliaaDoor.Ad
namespace Go.Proofs.YtpaplobjmmpliaaDoor.Ad
set_option linter.unusedVariables false
set_option linter.unusedSimpArgs false
theorem good_iff {l : List Rt} : goodTo l l.length ↔ (∀ r ∈ l, r.one = true) ∧ l.Pairwise fun x y => x.same y = false := by
  constructor
  · intro h
    exact ⟨fun r hr => good_one h hr, good_pair h⟩
  · rintro ⟨h1, h2⟩ i hi
    refine ⟨l[i], List.getElem?_eq_getElem hi, h1 _ (List.getElem_mem hi), fun j hj => ?_⟩
    have hjl : j < l.length := by omega
    exact ⟨l[j], List.getElem?_eq_getElem hjl, List.pairwise_iff_getElem.1 h2 j i hjl hi hj⟩
theorem good_perm {l s : List Rt} (hp : s.Perm l) (h : goodTo l l.length) : goodTo s s.length := by
  have h := good_iff.1 h
  exact good_iff.2 ⟨fun r hr => h.1 r (hp.subset hr), (hp.pairwise_iff fun {x y} h => same_symm h).2 h.2⟩
theorem may_perm {l s : List Rt} (hp : s.Perm l) : mayV s = mayV l := by
  rw [Bool.eq_iff_iff, mayV_iff, mayV_iff, hp.length_eq]
  exact ⟨fun h => ⟨h.1, good_perm hp.symm (by rw [hp.length_eq]; exact h.2)⟩, fun h => ⟨h.1, by have := good_perm hp h.2; rwa [hp.length_eq] at this⟩⟩
theorem sort_perm {l s : List Rt} (hl : ∀ r ∈ l, r.ok) (hp : s.Perm l) (h : goodTo l l.length) : sortV s = sortV l := by
  have h1 := sortV_sorted hl h
  have h2 := sortV_sorted (fun r hr => hl r (hp.subset hr)) (good_perm hp h)
  exact Sorted.one hl ⟨h2.perm.trans hp, h2.lt⟩ h1
theorem good_less {l : List Rt} {x : Rt} (h : goodTo (l ++ [x]) (l ++ [x]).length) : goodTo l l.length ∧ x.one = true := by
  have h := good_iff.1 h
  exact ⟨good_iff.2 ⟨fun r hr => h.1 r (List.mem_append.2 (.inl hr)), (List.pairwise_append.1 h.2).1⟩, h.1 x (List.mem_append.2 (.inr (List.mem_singleton.2 rfl)))⟩
theorem may_less {l : List Rt} {x : Rt} (h : mayV (l ++ [x]) = true) : mayV l = true ∧ x.one = true := by
  have h := (mayV_iff _).1 h
  have h2 := good_less h.2
  exact ⟨(mayV_iff l).2 ⟨by have := h.1; simp at this; omega, h2.1⟩, h2.2⟩
/-- What one route more turns. -/
theorem find_more {l : List Rt} {x : Rt} {a : Addr} (hv : a.valid = true) (hx : x.one = true) :
    (a.within x.net x.bits = false → findV (l ++ [x]) a = findV l a) ∧
    (a.within x.net x.bits = true → (findV (l ++ [x]) a = (x.link, 0) ∨ (findV (l ++ [x]) a = findV l a ∧ (findV l a).2 = 0))) := by
  unfold findV
  rw [if_pos hv, if_pos hv, find_snoc]
  constructor
  · intro hw
    have e : pick a (findB l a) x = findB l a := if_neg (by rw [hw]; simp)
    rw [e]
  · intro hw
    have h0 := within_nat hw
    by_cases h : (findB l a).2 < x.bits
    · have e : pick a (findB l a) x = (x.link, x.bits) := if_pos ⟨h, hw⟩
      left
      rw [e]
      exact if_neg (by show ¬ x.bits < 0; omega)
    · have e : pick a (findB l a) x = findB l a := if_neg fun h2 => h h2.1
      right
      have hn : ¬ (findB l a).2 < 0 := by omega
      rw [e, if_neg hn]
      exact ⟨rfl, rfl⟩
theorem find_bad {l : List Rt} {a : Addr} (hv : a.valid = false) : findV l a = (0, 1) := by unfold findV; rw [hv]; rfl
theorem within_own {x : Rt} (hx : x.one = true) : x.net.within x.net x.bits = true := by
  unfold Addr.within
  have h := of_decide_eq_true hx
  exact decide_eq_true ⟨h.1, h.1, rfl⟩
/-- The answer's error: none, no route, or an address that does not count. -/
theorem find_err (l : List Rt) (a : Addr) : (findV l a).2 = 0 ∨ (findV l a).2 = 210 ∨ (findV l a).2 = 1 := by
  unfold findV
  split
  · split
    · exact .inr (.inl rfl)
    · exact .inl rfl
  · exact .inr (.inr rfl)
/-- Of the routes that hold the address, the longest has the link that is found. -/
theorem best_link {l : List Rt} (hg : goodTo l l.length) {a : Addr} {r : Rt} (hr : r ∈ l) (hw : a.within r.net r.bits = true) (hb : r.bits = (findB l a).2) : r.link = (findB l a).1 := by
  rcases best_find a l with ⟨_, h⟩ | ⟨q, hq, hqw, he, hmx⟩
  · rw [h r hr] at hw; cases hw
  · rw [he] at hb ⊢
    have h : Best l a (r.link, r.bits) := .inr ⟨r, hr, hw, rfl, fun x hx hxw => by have := hmx x hx hxw; simp only at hb; omega⟩
    have := best_one hg (fun x => Iff.rfl) h (best_find a l)
    rw [he] at this
    exact congrArg Prod.fst this
end Go.Proofs.YtpaplobjmmpliaaDoor.Ad
namespace Go.Proofs.YtpaplobjmmpliaaDoor.Ad
set_option linter.unusedVariables false
set_option linter.unusedSimpArgs false
theorem dig_plain : ∀ k : Fin 16, digC k.val ≠ 47 ∧ digC k.val ≠ 32 ∧ digC k.val ≠ 10 := by decide +kernel
/-- A text without a slash, a blank, a line's end. -/
def plainT (l : List UInt8) : Prop := ∀ c ∈ l, c ≠ 47 ∧ c ≠ 32 ∧ c ≠ 10
theorem plainT.app {a b : List UInt8} (ha : plainT a) (hb : plainT b) : plainT (a ++ b) := fun c hc => (List.mem_append.1 hc).elim (ha c) (hb c)
theorem plainT_nil : plainT [] := fun c hc => by cases hc
theorem textB_plain {b : Nat} (n : Nat) (h2 : 2 ≤ b) (h : b ≤ 16) : plainT (textB b n) := by
  induction n using Nat.strongRecOn with
  | _ n ih =>
    by_cases hb : n < b
    · rw [textB_one hb]; intro c hc; rw [List.mem_singleton.1 hc]; exact dig_plain ⟨n, by omega⟩
    · rw [textB_more (by omega) h2]
      exact (ih _ (Nat.div_lt_self (by omega) (by omega))).app (fun c hc => by
        rw [List.mem_singleton.1 hc]
        exact dig_plain ⟨n % b, by have := Nat.mod_lt n (show 0 < b by omega); omega⟩)
theorem joinG_plain (b : List UInt8) (i : Nat) : ∀ n, plainT (joinG b i n)
  | 0 => by rw [joinG_zero]; exact plainT_nil
  | 1 => by rw [joinG_one]; exact textB_plain _ (by omega) (by omega)
  | n + 2 => by
    rw [joinG_succ _ _ _ (by omega)]
    exact ((joinG_plain b i (n + 1)).app (fun c hc => by rw [List.mem_singleton.1 hc]; decide)).app (textB_plain _ (by omega) (by omega))
theorem print_plain (a : Addr) : plainT (printV a) := by
  have p1 : plainT [46] := fun c hc => by rw [List.mem_singleton.1 hc]; decide
  have p2 : plainT [58, 58] := fun c hc => by
    rcases List.mem_cons.1 hc with rfl | hc
    · decide
    · rw [List.mem_singleton.1 hc]; decide
  have t10 := fun n : Nat => textB_plain (b := 10) n (by omega) (by omega)
  unfold printV
  split
  · split
    · rw [print4_out]
      exact ((((((t10 _).app p1).app (t10 _)).app p1).app (t10 _)).app p1).app (t10 _)
    · unfold print6
      split
      · exact joinG_plain _ _ _
      · exact ((joinG_plain _ _ _).app p2).app (joinG_plain _ _ _)
  · exact plainT_nil
theorem print_le (a : Addr) : (printV a).length ≤ 2000 := by
  unfold printV
  split
  · split
    · rw [print4_out]
      have := fun j : Nat => Nat.le_trans (textB_le 10 (a.b.getD j 0).toNat) (by have := (a.b.getD j 0).toNat_lt; omega : (a.b.getD j 0).toNat + 1 ≤ 256)
      have h0 := this 0; have h1 := this 1; have h2 := this 2; have h3 := this 3
      simp only [List.length_append, List.length_singleton]; omega
    · unfold print6
      split
      · have := joinG_len a.b 0 8; omega
      · have h1 := joinG_len a.b 0 (best a.b).1
        have h2 := joinG_len a.b ((best a.b).1 + (best a.b).2) (8 - ((best a.b).1 + (best a.b).2))
        have h3 := best_fits a.b
        simp only [List.length_append, List.length_cons, List.length_nil]
        rcases h3 with h3 | h3
        · rw [h3] at h1 h2 ⊢; simp only at h1 h2 ⊢; omega
        · omega
  · simp
theorem numQ_text : ∀ n : Fin 129, numQ (textB 10 n.val) = some (n.val : Int) := by decide +kernel
/-- A route's line, without its end. -/
def lineT (r : Rt) : List UInt8 := printV r.net ++ 47 :: (textB 10 r.bits.toNat ++ 32 :: textB 10 r.link.toNat)
/-- What a list is printed as. -/
def linesT (l : List Rt) : List UInt8 := l.flatMap fun r => lineT r ++ [10]
theorem linesT_cons (r : Rt) (l : List Rt) : linesT (r :: l) = lineT r ++ 10 :: linesT l := by unfold linesT; simp
theorem linesT_snoc (l : List Rt) (r : Rt) : linesT (l ++ [r]) = linesT l ++ (lineT r ++ [10]) := by unfold linesT; simp
theorem line_num {r : Rt} (h : r.one = true) : r.bits.toNat < 129 ∧ (r.bits.toNat : Int) = r.bits ∧ r.link.toNat < 16 ∧ (r.link.toNat : Int) = r.link := by
  have h1 := one_iff.1 h
  have hw : r.net.width ≤ 128 := by unfold Addr.width; split <;> (try split) <;> omega
  have := h1.2.2.2.1
  have := h1.2.2.2.2.1
  have := h1.2.1
  have := h1.2.2.1
  omega
theorem line_back {r : Rt} (hr : r.ok) (h : r.one = true) : lineV (lineT r) = (r, true) := by
  obtain ⟨n1, n2, n3, n4⟩ := line_num h
  have hv := (one_iff.1 h).1
  have c1 := cut1_at (c := 47) (A := printV r.net) (R := textB 10 r.bits.toNat ++ 32 :: textB 10 r.link.toNat) (fun hm => (print_plain r.net 47 hm).1 rfl)
  have c2 := cut1_at (c := 32) (A := textB 10 r.bits.toNat) (R := textB 10 r.link.toNat) (fun hm => (textB_plain (b := 10) _ (by omega) (by omega) 32 hm).2.1 rfl)
  have r1 := read_print (a := r.net) hr hv
  have q1 := numQ_text ⟨_, n1⟩
  have q2 := numQ_text ⟨r.link.toNat, by omega⟩
  simp only at q1 q2
  unfold lineV lineT
  simp only [c1, c2, r1, q1, q2, ansA, ansE, ansN]
  rw [n2, n4]
  simp
theorem line_end {r : Rt} : (10 : UInt8) ∉ lineT r := by
  unfold lineT
  intro h
  rcases List.mem_append.1 h with h | h
  · exact (print_plain _ _ h).2.2 rfl
  · rcases List.mem_cons.1 h with h | h
    · cases h
    · rcases List.mem_append.1 h with h | h
      · exact (textB_plain (b := 10) _ (by omega) (by omega) _ h).2.2 rfl
      · rcases List.mem_cons.1 h with h | h
        · cases h
        · exact (textB_plain (b := 10) _ (by omega) (by omega) _ h).2.2 rfl
theorem lines_back : ∀ l : List Rt, (∀ r ∈ l, r.ok ∧ r.one = true) → linesV (linesT l) = some l
  | [], _ => linesV_nil
  | r :: l, h => by
    have hr := h r List.mem_cons_self
    have ih := lines_back l fun x hx => h x (List.mem_cons_of_mem _ hx)
    have c1 := cut1_at (c := 10) (A := lineT r) (R := linesT l) line_end
    have hne : lineT r ++ 10 :: linesT l ≠ [] := by simp
    have hb := line_back hr.1 hr.2
    rw [linesT_cons, linesV_step hne (by rw [c1]; simp only; rw [hb]; simp), c1]
    simp only
    rw [hb, ih]; rfl
theorem line_le {r : Rt} (h : r.one = true) : (lineT r).length ≤ 2200 := by
  obtain ⟨n1, n2, n3, n4⟩ := line_num h
  have h1 := print_le r.net
  have h2 := textB_le 10 r.bits.toNat
  have h3 := textB_le 10 r.link.toNat
  unfold lineT
  simp only [List.length_append, List.length_cons]; omega
theorem lines_le : ∀ l : List Rt, (∀ r ∈ l, r.one = true) → (linesT l).length ≤ 2300 * l.length
  | [], _ => by simp [linesT]
  | r :: l, h => by
    have h1 := line_le (h r List.mem_cons_self)
    have h2 := lines_le l fun x hx => h x (List.mem_cons_of_mem _ hx)
    rw [linesT_cons]
    simp only [List.length_append, List.length_cons]; omega
theorem sort_all {l : List Rt} (hl : ∀ r ∈ l, r.ok) (hm : mayV l = true) : (∀ r ∈ sortV l, r.ok ∧ r.one = true) ∧ mayV (sortV l) = true := by
  have h := sortV_sorted hl (may_good hm)
  exact ⟨fun r hr => ⟨hl r (h.perm.subset hr), good_one (may_good hm) (h.perm.subset hr)⟩, by rw [may_perm h.perm]; exact hm⟩
/-- What Print answers. -/
def printR (l : List Rt) : List UInt8 × Int := if mayV l = true then (linesT (sortV l), 0) else ([], 1)
theorem print_back {l : List Rt} (hl : ∀ r ∈ l, r.ok) (hm : mayV l = true) : parseV (linesT (sortV l)) = (sortV l, 0) := by
  obtain ⟨h1, h2⟩ := sort_all hl hm
  unfold parseV
  rw [lines_back _ h1]
  simp only
  rw [if_pos h2]
theorem printed_le {l : List Rt} (hl : ∀ r ∈ l, r.ok) (hm : mayV l = true) : (linesT (sortV l)).length ≤ 100000 := by
  have h1 := lines_le (sortV l) fun r hr => ((sort_all hl hm).1 r hr).2
  have h2 := ((mayV_iff l).1 hm).1
  rw [sortV_len] at h1
  omega
theorem sort_again {l : List Rt} (hl : ∀ r ∈ l, r.ok) (hm : mayV l = true) : sortV (sortV l) = sortV l :=
  sort_perm hl (sortV_sorted hl (may_good hm)).perm (may_good hm)
end Go.Proofs.YtpaplobjmmpliaaDoor.Ad
