/- SumOrders, as a statement over a list: two words in each other's place leave the sum; all words with their bytes swapped have its bytes swapped; Of is what Part lacks to 65535. Conditions: a list of bytes that takes at most 2^47 - 4096 bytes, two numbers of 64 bits. -/
import Derived.Test.YtoijfhcmjolecaaPAllx3
import Derived.Test.YtoijfhcmjolecaaPureSumVerifies
namespace Go.Proofs.Ytoijfhcmjolecaa.Pure
set_option linter.unusedVariables false
set_option linter.unusedSimpArgs false
open Go.RowKit Go.Proofs.Ytoijfhcmjolecaa.PAll Go.Proofs.YtoijfhcmjolecaaW.PrintWords Go.Proofs.YtoijfhcmjolecaaW.PrintLast Go.Proofs.Ytoijfhcmjolecaa.SumT Go.Proofs.Ytoijfhcmjolecaa.SumE

def swp : List Int → List Int
  | [] => []
  | [a] => [0, a]
  | a :: b :: t => b :: a :: swp t
theorem swp_bytes (l : List Int) (h : Bytes l) : Bytes (swp l) ∧ (swp l).length ≤ l.length + 1 := by
  match l, h with
  | [], h => exact ⟨h, by simp [swp]⟩
  | [a], h => exact ⟨.cons (by omega) (.cons h.head .nil), by simp [swp]⟩
  | a :: b :: t, h =>
    have := swp_bytes t h.tail.tail
    exact ⟨.cons h.tail.head (.cons h.head this.1), by simp only [swp, List.length_cons]; omega⟩
theorem psum_swp (l : List Int) (h : Bytes l) : psum (swp l) % 65535 = (256 * psum l) % 65535 ∧ (psum (swp l) = 0 ↔ psum l = 0) := by
  match l, h with
  | [], h => simp [swp, psum, psw]
  | [a], h =>
    have := h.head
    simp only [swp, psum, psw]; omega
  | a :: b :: t, h =>
    have h1 := psum_swp t h.tail.tail
    have h2 := psum_nonneg t h.tail.tail
    have h3 := psum_nonneg (swp t) (swp_bytes t h.tail.tail).1
    have ha := h.head
    have hb := h.tail.head
    simp only [swp, psum, psw, show (257 : Int) - 256 = 1 from rfl, show (257 : Int) - 1 = 256 from rfl] at *
    generalize psw 256 t = x at *
    generalize psw 256 (swp t) = y at *
    omega
theorem part_swp (l : List Int) (h : Bytes l) : osum (psum (swp l)) = swap (osum (psum l)) := by
  have h1 := psum_swp l h
  have h2 := psum_nonneg l h
  have h3 := psum_nonneg _ (swp_bytes l h).1
  have h4 := osum_le _ h2
  have h5 := osum_mod (psum l)
  have h6 := osum_zero _ h2
  have h7 := swap_le h4.1 h4.2
  have h8 := swap_mod h4.1 h4.2
  have h9 := swap_zero h4.1 h4.2
  exact (osum_of h3 h7.1 h7.2 (by omega) (by rw [h9, h6, h1.2])).symm

theorem swapped_l (l : List Int) (hl : l.length ≤ 140737488351232) : ∀ (d i : Nat) (out : List Int), l.length ≤ i + 2 * d → i ≤ l.length + 1 → out.length ≤ i → Ev (fun k => mosaiclaw01_swapped.l0 k l out i) (out ++ swp (l.drop i)) := by
  intro d
  induction d with
  | zero =>
    intro i out hi hi2 ho
    refine Ev.step (f := fun _ => some out) (fun k => ?_) ?_
    · simp only [mosaiclaw01_swapped.l0]; rw [if_neg (by omega)]
    · rw [List.drop_of_length_le (by omega), swp, List.append_nil]; exact Ev.now _
  | succ d ih =>
    intro i out hi hi2 ho
    by_cases hlt : i < l.length
    · have e1 : wrap64 ((i : Int) + 1) = ((i + 1 : Nat) : Int) := by rw [w64 (by omega) (by omega)]; omega
      have e2 : wrap64 ((i : Int) + 2) = ((i + 2 : Nat) : Int) := by rw [w64 (by omega) (by omega)]; omega
      have hd : l.drop i = l.getD i 0 :: l.drop (i + 1) := by
        rw [List.drop_eq_getElem_cons hlt, List.getD_eq_getElem?_getD, List.getElem?_eq_getElem hlt]; rfl
      refine Ev.step (f := fun k => _) (fun k => by simp only [mosaiclaw01_swapped.l0]; rfl) ?_
      rw [e1, e2]
      refine ev_pos (by omega) ?_
      by_cases h2 : i + 1 < l.length
      · have hd2 : l.drop (i + 1) = l.getD (i + 1) 0 :: l.drop (i + 2) := by
          rw [List.drop_eq_getElem_cons h2, List.getD_eq_getElem?_getD, List.getElem?_eq_getElem h2]; rfl
        refine ev_pos (by omega) ?_
        refine ev_pos (by omega) ?_
        refine ev_pos (by omega) ?_
        refine ev_bind rfl ?_
        refine ev_pos (by simp; omega) ?_
        have := ih (i + 2) (out ++ [rd l ((i + 1 : Nat) : Int), rd l (i : Int)]) (by omega) (by omega) (by simp; omega)
        rw [rd_get, rd_get] at *
        rw [hd, hd2, swp]
        simpa using this
      · refine ev_neg (by omega) ?_
        refine ev_pos (by omega) ?_
        refine ev_bind rfl ?_
        refine ev_pos (by simp; omega) ?_
        have := ih (i + 2) (out ++ [0, rd l (i : Int)]) (by omega) (by omega) (by simp; omega)
        rw [rd_get] at *
        rw [hd, List.drop_of_length_le (i := i + 1) (by omega), swp]
        rw [List.drop_of_length_le (i := i + 2) (by omega), swp] at this
        simpa using this
    · refine Ev.step (f := fun _ => some out) (fun k => ?_) ?_
      · simp only [mosaiclaw01_swapped.l0]; rw [if_neg (by omega)]
      · rw [List.drop_of_length_le (by omega), swp, List.append_nil]; exact Ev.now _
theorem swapped_any (l : List Int) (hl : l.length ≤ 140737488351232) : Ev (fun k => mosaiclaw01_swapped.f k l) (swp l) := by
  have := swapped_l l hl l.length 0 [] (by omega) (by omega) (by simp)
  show Ev (fun k => mosaiclaw01_swapped.l0 k l [] 0) _
  simpa using this

/-- Two whole words in each other's place. -/
theorem psum_exchange (l : List Int) (x y : Nat) (hx : x % 2 = 0) (hy : y % 2 = 0) (hx1 : x + 1 < l.length) (hy1 : y + 1 < l.length) :
    psum ((((l.set x (l.getD y 0)).set (x + 1) (l.getD (y + 1) 0)).set y (l.getD x 0)).set (y + 1) (l.getD (x + 1) 0)) = psum l := by
  have h1 := psum_word l x hx hx1 (l.getD y 0) (l.getD (y + 1) 0)
  have h2 := psum_word ((l.set x (l.getD y 0)).set (x + 1) (l.getD (y + 1) 0)) y hy (by simpa using hy1) (l.getD x 0) (l.getD (x + 1) 0)
  rw [h2, h1]
  by_cases e : x = y
  · subst e
    rw [getD_set_ne _ _ _ _ (by omega), getD_set_eq _ _ _ (by omega), getD_set_eq _ _ _ (by simp; omega)]; omega
  · rw [getD_set_ne _ _ _ _ (by omega), getD_set_ne _ _ _ _ (by omega), getD_set_ne _ _ _ _ (by omega), getD_set_ne _ _ _ _ (by omega)]; omega

theorem orders_j0 {l : List Int} (hB : Bytes l) (hl : l.length ≤ 140737488351232) (i j : Int) : Ev (fun k => mosaiclaw01_SumOrders.j0 k l i j (osum (psum l)) false) true := by
  have e0 : wrap64 ((l.length : Int) / 2) = (l.length : Int) / 2 := w64 (by omega) (by omega)
  have e1 : wrap64 (wrap64 ((l.length : Int) / 2) - 1) = (l.length : Int) / 2 - 1 := by rw [e0, w64 (by omega) (by omega)]
  refine Ev.step (f := fun k => _) (fun k => by simp only [mosaiclaw01_SumOrders.j0]; rfl) ?_
  refine ev_neg (by simp) ?_
  by_cases hs : l.length < 2
  · refine ev_pos (by rw [e0]; omega) ?_
    match l, hB, hs with
    | [], hB, hs =>
      refine ev_neg (by simp) ?_
      refine ev_pos (by simp) ?_
      exact ⟨0, fun _ _ => rfl⟩
    | [a], hB, hs =>
      have ha := hB.head
      refine ev_pos (by simp) ?_
      refine ev_pos (by simp) ?_
      refine ev_pos ?_ (Ev.now _)
      rw [show rd [a] 0 = a from rfl, wrap_u16 a (by omega) (by omega), wrap_u16 _ (by omega) (by omega)]
      have e : psum [a] = a * 256 := by simp only [psum, psw]; omega
      rw [e, osum_small (by omega) (by omega)]
    | a :: b :: t, hB, hs => simp only [List.length_cons] at hs; omega
  · refine ev_neg (by rw [e0]; omega) ?_
    refine ev_bind (own_any (by omega)) ?_
    obtain ⟨r, hr, hr0, hr1⟩ := rest_any i (most := (l.length : Int) / 2 - 1) (by omega) (by omega)
    obtain ⟨q, hq, hq0, hq1⟩ := rest_any j (most := (l.length : Int) / 2 - 1) (by omega) (by omega)
    refine ev_bind (by rw [e1]; exact hr) ?_
    refine ev_bind (by rw [e1]; exact hq) ?_
    obtain ⟨r, rfl⟩ := Int.eq_ofNat_of_zero_le hr0
    obtain ⟨q, rfl⟩ := Int.eq_ofNat_of_zero_le hq0
    have e2 : wrap64 (2 * (r : Int)) = ((2 * r : Nat) : Int) := by rw [w64 (by omega) (by omega)]; omega
    have e3 : wrap64 (((2 * r : Nat) : Int) + 1) = ((2 * r + 1 : Nat) : Int) := by rw [w64 (by omega) (by omega)]; omega
    have e4 : wrap64 (2 * (q : Int)) = ((2 * q : Nat) : Int) := by rw [w64 (by omega) (by omega)]; omega
    have e5 : wrap64 (((2 * q : Nat) : Int) + 1) = ((2 * q + 1 : Nat) : Int) := by rw [w64 (by omega) (by omega)]; omega
    rw [e2, e3, e4, e5]
    iterate 12 refine ev_pos (by omega) ?_
    rw [Int.toNat_natCast, Int.toNat_natCast, Int.toNat_natCast, Int.toNat_natCast, rd_get, rd_get, rd_get, rd_get]
    have hx := psum_exchange l (2 * r) (2 * q) (by omega) (by omega) (by omega) (by omega)
    have hb : Bytes ((((l.set (2 * r) (l.getD (2 * q) 0)).set (2 * r + 1) (l.getD (2 * q + 1) 0)).set (2 * q) (l.getD (2 * r) 0)).set (2 * q + 1) (l.getD (2 * r + 1) 0)) := (((hB.set _ (hB.get _)).set _ (hB.get _)).set _ (hB.get _)).set _ (hB.get _)
    have hlen : ((((l.set (2 * r) (l.getD (2 * q) 0)).set (2 * r + 1) (l.getD (2 * q + 1) 0)).set (2 * q) (l.getD (2 * r) 0)).set (2 * q + 1) (l.getD (2 * r + 1) 0)).length = l.length := by simp
    have p := part_any hb (by omega)
    rw [hx] at p
    refine Ev.bind (f := fun k t => some (t == osum (psum l))) p ?_
    simp only [beq_self_eq_true]; exact Ev.now _

theorem SumOrders : mosaiclaw01_SumOrders.Pure := by
  intro l i j _ hl wl _ _
  have hB := bytes_of wl
  have hp : 0 ≤ osum (psum l) ∧ osum (psum l) ≤ 65535 := osum_le _ (psum_nonneg l hB)
  refine Ev.rounds ?_
  unfold mosaiclaw01_SumOrders.f
  refine Ev.bind (f := fun k t => if t = true then _ else _) known_any ?_
  refine ev_pos rfl ?_
  refine Ev.bind (f := fun k t => _) (part_any hB (by omega)) ?_
  refine Ev.bind (f := fun k t => _) (swapped_any l (by omega)) ?_
  refine Ev.bind (f := fun k t => _) (part_any (swp_bytes l hB).1 (by have := (swp_bytes l hB).2; omega)) ?_
  refine ev_pos (by rw [part_swp l hB, swap16 hp.1 hp.2]) ?_
  refine Ev.bind (f := fun k t => _) (of_any hB (by omega)) ?_
  rw [wrap_u16 (65535 - osum (psum l)) (by omega) (by omega)]
  simp only [bne_self_eq_false]
  exact orders_j0 hB (by omega) i j
end Go.Proofs.Ytoijfhcmjolecaa.Pure
