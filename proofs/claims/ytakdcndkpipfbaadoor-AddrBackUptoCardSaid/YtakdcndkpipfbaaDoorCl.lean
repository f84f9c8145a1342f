/- What a printer writes is read as the address: plain Lean, no program. -/
import Derived.Test.YtakdcndkpipfbaaDoorCk
import Derived.Test.YtakdcndkpipfbaaDoorBy
namespace Go.Proofs.YtakdcndkpipfbaaDoor.Ad
set_option linter.unusedVariables false
set_option linter.unusedSimpArgs false
/-- A digit in lower or upper case. -/
def dig (up : Bool) (k : Nat) : UInt8 := if up = true ∧ 9 < k then UInt8.ofNat (55 + k) else digC k
theorem dig_ok : ∀ (up : Bool) (k : Fin 16), digitV (dig up k.val) = k.val ∧ dig up k.val ≠ 58 := by decide +kernel
/-- The digits of n to the base 16, m of them at least. -/
def hexR (up : Bool) (n m : Nat) : List UInt8 := if h : n = 0 ∧ m = 0 then [] else hexR up (n / 16) (m - 1) ++ [dig up (n % 16)]
termination_by n + m
decreasing_by
  by_cases h0 : n = 0
  · omega
  · have := Nat.div_lt_self (show 0 < n by omega) (show 1 < 16 by omega); omega
theorem hexR_zero (up : Bool) : hexR up 0 0 = [] := by rw [hexR, dif_pos ⟨rfl, rfl⟩]
theorem hexR_more (up : Bool) {n m : Nat} (h : ¬ (n = 0 ∧ m = 0)) : hexR up n m = hexR up (n / 16) (m - 1) ++ [dig up (n % 16)] := by rw [hexR, dif_neg h]
theorem hexR_ind {P : Nat → Nat → Prop} (h0 : P 0 0) (hs : ∀ n m, ¬ (n = 0 ∧ m = 0) → P (n / 16) (m - 1) → P n m) : ∀ n m, P n m := by
  have : ∀ k n m, n + m ≤ k → P n m := by
    intro k
    induction k with
    | zero => intro n m h; obtain ⟨rfl, rfl⟩ : n = 0 ∧ m = 0 := by omega
              exact h0
    | succ k ih =>
      intro n m h
      by_cases hz : n = 0 ∧ m = 0
      · obtain ⟨rfl, rfl⟩ := hz; exact h0
      · refine hs n m hz (ih _ _ ?_)
        by_cases hn : n = 0
        · omega
        · have := Nat.div_lt_self (show 0 < n by omega) (show 1 < 16 by omega); omega
  exact fun n m => this _ n m (Nat.le_refl _)
theorem foldD_app {base : Int} : ∀ (l r : List UInt8) (acc : Int), (∀ c ∈ l, digitV c < base) → foldD base (l ++ r) acc = foldD base r (foldD base l acc)
  | [], r, acc, _ => rfl
  | c :: l, r, acc, h => by
    have hc := h c List.mem_cons_self
    rw [List.cons_append, foldD, foldD, if_neg (by omega), if_neg (by omega)]
    exact foldD_app l r _ fun d hd => h d (List.mem_cons_of_mem _ hd)
theorem hexR_all (up : Bool) (n m : Nat) : ∀ c ∈ hexR up n m, digitV c < 16 ∧ c ≠ 58 := by
  refine hexR_ind (P := fun n m => ∀ c ∈ hexR up n m, digitV c < 16 ∧ c ≠ 58) ?_ ?_ n m
  · rw [hexR_zero]; intro c hc; cases hc
  · intro n m h ih c hc
    rw [hexR_more up h] at hc
    rcases List.mem_append.1 hc with hc | hc
    · exact ih c hc
    · obtain rfl := List.mem_singleton.1 hc
      have hl := Nat.mod_lt n (show 0 < 16 by omega)
      have := dig_ok up ⟨n % 16, hl⟩
      exact ⟨by have h1 := this.1; simp only at h1; rw [h1]; omega, this.2⟩
theorem hexR_val (up : Bool) (n m : Nat) : foldD 16 (hexR up n m) 0 = n := by
  refine hexR_ind (P := fun n m => foldD 16 (hexR up n m) 0 = n) ?_ ?_ n m
  · rw [hexR_zero]; rfl
  · intro n m h ih
    rw [hexR_more up h, foldD_app _ _ _ fun c hc => (hexR_all up _ _ c hc).1, ih]
    have hl := Nat.mod_lt n (show 0 < 16 by omega)
    have h1 := (dig_ok up ⟨n % 16, hl⟩).1
    simp only at h1
    rw [foldD, h1, if_neg (by omega), foldD]
    omega
theorem hexR_len (up : Bool) : ∀ k n m, n < 16 ^ k → (hexR up n m).length ≤ max m k
  | 0, n, m, h => by
    obtain rfl : n = 0 := by simp at h; exact h
    induction m with
    | zero => rw [hexR_zero]; simp
    | succ m ih => rw [hexR_more up (by omega)]; simp at ih ⊢; exact ih
  | k + 1, n, m, h => by
    by_cases hz : n = 0 ∧ m = 0
    · obtain ⟨rfl, rfl⟩ := hz; rw [hexR_zero]; simp
    · rw [hexR_more up hz]
      have := hexR_len up k (n / 16) (m - 1) (by rw [Nat.pow_succ] at h; omega)
      simp; omega
theorem hexR_ok (up : Bool) {n m : Nat} (hn : n < 65536) (h1 : 1 ≤ m) (h4 : m ≤ 4) : HexOk (hexR up n m) n where
  ne := by rw [hexR_more up (by omega)]; simp
  le := by have := hexR_len up 4 n m (by omega); omega
  no := fun h => (hexR_all up n m _ h).2 rfl
  val := hexR_val up n m
theorem dig_low (k : Nat) : dig false k = digC k := by unfold dig; rw [if_neg (by simp)]
theorem textB_hex (n : Nat) : textB 16 n = hexR false n 1 := by
  induction n using Nat.strongRecOn with
  | _ n ih =>
    rw [hexR_more false (by omega), dig_low]
    by_cases h : n < 16
    · rw [textB_one h, Nat.div_eq_of_lt h, Nat.mod_eq_of_lt h, hexR_zero]; rfl
    · rw [textB_more (by omega) (by omega), ih _ (Nat.div_lt_self (by omega) (by omega))]
      have h0 : ¬ n / 16 = 0 := by omega
      rw [hexR_more false (n := n / 16) (m := 1) (by omega), hexR_more false (n := n / 16) (m := 1 - 1) (by omega)]
theorem textB_ok {n : Nat} (hn : n < 65536) : HexOk (textB 16 n) n := by rw [textB_hex]; exact hexR_ok false hn (by omega) (by omega)
/-- n groups from the i-th on, each by its text. -/
def joinT (T : Nat → List UInt8) (i n : Nat) : List UInt8 := Lib.join ((List.range' i n).map T) [58]
theorem hexes_range {b : List UInt8} {T : Nat → List UInt8} (h : ∀ k, HexOk (T k) (grp b k)) : ∀ n i, Hexes ((List.range' i n).map T) ((List.range' i n).map (grp b))
  | 0, i => .nil
  | n + 1, i => by rw [List.range'_succ]; exact .cons (h i) (hexes_range h n (i + 1))
theorem groups_all {b : List UInt8} (hb : b.length = 16) : ofGroups (((List.range' 0 8).map (grp b)).map fun v : Nat => (v : Int)) = ⟨6, b⟩ := by
  unfold ofGroups
  congr 1
  refine ext16 (partF_len _ _) hb fun i hi => ?_
  rw [partF_at _ _ _ hi, if_pos hi]
  have hg : (((List.range' 0 8).map (grp b)).map fun v : Nat => (v : Int)).getD (i / 2) 0 = (grp b (i / 2) : Nat) := by
    rw [List.getD_eq_getElem?_getD, List.getElem?_map, List.getElem?_map, List.getElem?_range' (by omega)]
    simp
  unfold groupB
  rw [hg]
  have h0 := (b.getD (2 * (i / 2)) 0).toNat_lt
  have h1 := (b.getD (2 * (i / 2) + 1) 0).toNat_lt
  by_cases he : i % 2 = 0
  · rw [if_pos he]
    apply UInt8.toNat.inj
    rw [UInt8.toNat_ofNat']
    unfold grp
    rw [show 2 * (i / 2) = i by omega] at h0 h1 ⊢
    omega
  · rw [if_neg he]
    apply UInt8.toNat.inj
    rw [UInt8.toNat_ofNat']
    unfold grp
    rw [show 2 * (i / 2) + 1 = i by omega] at h1 ⊢
    omega
theorem read_long {b : List UInt8} (hb : b.length = 16) {T : Nat → List UInt8} (h : ∀ k, HexOk (T k) (grp b k)) : readV (joinT T 0 8) = some ⟨6, b⟩ := by
  unfold joinT
  rw [read_whole (hexes_range h 8 0) (by simp), groups_all hb]
theorem read_short {b : List UInt8} (hb : b.length = 16) {T : Nat → List UInt8} (h : ∀ k, HexOk (T k) (grp b k)) {f m : Nat} (hm : 1 ≤ m) (hf : f + m ≤ 8) (hz : ∀ j, j < m → grp b (f + j) = 0) :
    readV (joinT T 0 f ++ [58, 58] ++ joinT T (f + m) (8 - (f + m))) = some ⟨6, b⟩ := by
  unfold joinT
  rw [read_gap (hexes_range h f 0) (hexes_range h (8 - (f + m)) (f + m)) (by simp; omega), ← groups_all hb]
  congr 2
  unfold fill
  have hr : List.range' 0 8 = List.range' 0 f ++ List.range' f m ++ List.range' (f + m) (8 - (f + m)) := by
    have e1 : List.range' 0 8 = List.range' 0 (f + m) ++ List.range' (0 + 1 * (f + m)) (8 - (f + m)) := by rw [List.range'_append]; congr 1; omega
    have e2 : List.range' 0 (f + m) = List.range' 0 f ++ List.range' (0 + 1 * f) m := by rw [List.range'_append]
    rw [e1, e2]; simp
  rw [hr]
  simp only [List.map_append, List.length_map, List.length_range']
  congr 2
  apply List.ext_getElem?
  intro j
  by_cases hj : j < m
  · rw [List.getElem?_replicate, if_pos (by omega), List.getElem?_map, List.getElem?_map, List.getElem?_range' hj]
    simp [hz j hj]
  · rw [List.getElem?_eq_none (by simp; omega), List.getElem?_eq_none (by simp; omega)]
/-- The text of version 6 is read as the address. -/
theorem read_print6 {b : List UInt8} (hb : b.length = 16) : readV (print6 b) = some ⟨6, b⟩ := by
  have hT : ∀ k, HexOk (textB 16 (grp b k)) (grp b k) := fun k => textB_ok (grp_lt b k)
  unfold print6
  rcases best_fits b with h | ⟨h1, h2, h3⟩
  · rw [h, if_pos rfl]
    exact read_long hb hT
  · rw [if_neg (by omega)]
    exact read_short hb hT (by omega) h2 fun j hj => (runV_at b j _ (by omega)).2
/-- The text of version 4. -/
theorem dec_ok : ∀ k : Fin 256, decOk (textB 10 k.val) = true ∧ numV (textB 10 k.val) 10 3 = k.val ∧ 46 ∉ textB 10 k.val ∧ 58 ∉ textB 10 k.val := by decide +kernel
theorem dec_at (x : UInt8) : decOk (textB 10 x.toNat) = true ∧ numV (textB 10 x.toNat) 10 3 = x.toNat ∧ 46 ∉ textB 10 x.toNat ∧ 58 ∉ textB 10 x.toNat := dec_ok ⟨x.toNat, x.toNat_lt⟩
theorem read_print4 {a : Addr} (ha : a.ok) (hv : a.valid = true) (h4 : a.v = 4) : readV (print4 a.b) = some a := by
  obtain ⟨b0, n0, d0, c0⟩ := dec_at (a.b.getD 0 0)
  obtain ⟨b1, n1, d1, c1⟩ := dec_at (a.b.getD 1 0)
  obtain ⟨b2, n2, d2, c2⟩ := dec_at (a.b.getD 2 0)
  obtain ⟨b3, n3, d3, c3⟩ := dec_at (a.b.getD 3 0)
  have hc : (print4 a.b).contains 58 = false := by
    rw [print4_out, Bool.eq_false_iff]
    intro h
    rw [List.contains_iff_mem] at h
    simp only [List.mem_append, List.mem_singleton] at h
    rcases h with (((((h | h) | h) | h) | h) | h) | h
    · exact c0 h
    · exact absurd h (by decide)
    · exact c1 h
    · exact absurd h (by decide)
    · exact c2 h
    · exact absurd h (by decide)
    · exact c3 h
  have hcut : cuts 46 (print4 a.b) = [textB 10 (a.b.getD 0 0).toNat, textB 10 (a.b.getD 1 0).toNat, textB 10 (a.b.getD 2 0).toNat, textB 10 (a.b.getD 3 0).toNat] := by
    rw [print4_out]
    simp only [List.append_assoc, List.singleton_append, List.cons_append, List.nil_append]
    rw [cuts_at 46 _ _ d0, cuts_at 46 _ _ d1, cuts_at 46 _ _ d2, cuts_none 46 _ d3]
  unfold readV
  rw [if_neg (by rw [hc]; decide)]
  unfold read4
  rw [hcut, if_pos (by rfl), if_pos (by simp only [List.all_cons, List.all_nil, b0, b1, b2, b3, Bool.and_true])]
  congr 1
  have e : partF (decB [textB 10 (a.b.getD 0 0).toNat, textB 10 (a.b.getD 1 0).toNat, textB 10 (a.b.getD 2 0).toNat, textB 10 (a.b.getD 3 0).toNat]) 4 = a.b := ext16 (partF_len _ _) ha fun i hi => by
    rw [partF_at _ _ _ hi]
    by_cases h : i < 4
    · rw [if_pos h]
      have : i = 0 ∨ i = 1 ∨ i = 2 ∨ i = 3 := by omega
      rcases this with rfl | rfl | rfl | rfl
      · show UInt8.ofNat (numV (textB 10 (a.b.getD 0 0).toNat) 10 3).toNat = _; rw [n0, Int.toNat_natCast, UInt8.ofNat_toNat]
      · show UInt8.ofNat (numV (textB 10 (a.b.getD 1 0).toNat) 10 3).toNat = _; rw [n1, Int.toNat_natCast, UInt8.ofNat_toNat]
      · show UInt8.ofNat (numV (textB 10 (a.b.getD 2 0).toNat) 10 3).toNat = _; rw [n2, Int.toNat_natCast, UInt8.ofNat_toNat]
      · show UInt8.ofNat (numV (textB 10 (a.b.getD 3 0).toNat) 10 3).toNat = _; rw [n3, Int.toNat_natCast, UInt8.ofNat_toNat]
    · rw [if_neg h, tail_zero ha hv h4 i (by omega) hi]
  rw [e, ← h4]
theorem read_print {a : Addr} (ha : a.ok) (hv : a.valid = true) : readV (printV a) = some a := by
  unfold printV
  rw [if_pos hv]
  rcases valid_v hv with h | h
  · rw [if_pos h]; exact read_print4 ha hv h
  · rw [if_neg (by omega), read_print6 ha, ← h]
end Go.Proofs.YtakdcndkpipfbaaDoor.Ad
