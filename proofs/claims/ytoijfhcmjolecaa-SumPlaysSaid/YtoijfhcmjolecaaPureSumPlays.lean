/- SumPlays, as a statement over numbers and lists: every Part, Of, Add, Join and Patch is the document's. Conditions: a list of bytes that takes at most 2^47 - 4096 bytes, three numbers of 16 bits, one of 64. -/
import Derived.Test.YtoijfhcmjolecaaSumF
namespace Go.Proofs.Ytoijfhcmjolecaa.Pure
set_option linter.unusedVariables false
set_option linter.unusedSimpArgs false
open Go.RowKit Go.Proofs.Ytoijfhcmjolecaa.PAll Go.Proofs.YtoijfhcmjolecaaW.PrintWords Go.Proofs.YtoijfhcmjolecaaW.PrintLast Go.Proofs.Ytoijfhcmjolecaa.SumT Go.Proofs.Ytoijfhcmjolecaa.SumE

theorem ref_rest {n : Int} (h : 0 ≤ n) : mosaicref01_rest.f n = some (osum n) := by
  unfold mosaicref01_rest.f osum
  rw [Int.tmod_eq_emod_of_nonneg h]
  split
  · rfl
  · split <;> rfl
theorem ref_part_l (l : List Int) (hb : Bytes l) (hl : l.length ≤ 140737488355328) : ∀ (d i : Nat) (s : Int), i + d = l.length → 0 ≤ s → s + 65280 * d < 9223372036854775808 →
    Ev (fun k => mosaicref01_Part.l0 k l s i) (osum (s + psw (if i % 2 = 0 then 256 else 1) (l.drop i))) := by
  intro d
  induction d with
  | zero =>
    intro i s hi h0 h1
    refine Ev.step (f := fun k => (mosaicref01_rest.f s).bind fun t226 => some t226) (fun k => ?_) ?_
    · simp only [mosaicref01_Part.l0]; rw [if_neg (by omega)]
    · rw [List.drop_of_length_le (by omega)]
      simp only [psw, Int.add_zero, ref_rest h0, Option.bind_some]
      exact Ev.now _
  | succ d ih =>
    intro i s hi h0 h1
    have hg := hb.get i
    have hd : l.drop i = l.getD i 0 :: l.drop (i + 1) := by
      rw [List.drop_eq_getElem_cons (by omega), List.getD_eq_getElem?_getD, List.getElem?_eq_getElem (by omega)]; rfl
    have e1 : wrap64 ((i : Int) + 1) = ((i + 1 : Nat) : Int) := by rw [w64 (by omega) (by omega)]; omega
    by_cases hp : i % 2 = 0
    · refine Ev.step (f := fun k => mosaicref01_Part.l0 k l (s + 256 * l.getD i 0) ((i + 1 : Nat) : Int)) (fun k => ?_) ?_
      · simp only [mosaicref01_Part.l0]
        rw [if_pos (by omega), if_pos (by rw [Int.tmod_eq_emod_of_nonneg (by omega)]; omega), if_pos (by omega), rd_get, w64 (n := l.getD i 0) (by omega) (by omega), w64 (n := 256 * l.getD i 0) (by omega) (by omega), w64 (by omega) (by omega), e1]
      · have := ih (i + 1) (s + 256 * l.getD i 0) (by omega) (by omega) (by omega)
        rw [if_neg (by omega)] at this
        rw [if_pos hp, hd, psw, ← Int.add_assoc]
        exact this
    · refine Ev.step (f := fun k => mosaicref01_Part.l0 k l (s + l.getD i 0) ((i + 1 : Nat) : Int)) (fun k => ?_) ?_
      · simp only [mosaicref01_Part.l0]
        rw [if_pos (by omega), if_neg (by rw [Int.tmod_eq_emod_of_nonneg (by omega)]; omega), if_pos (by omega), rd_get, w64 (n := l.getD i 0) (by omega) (by omega), w64 (by omega) (by omega), e1]
      · have := ih (i + 1) (s + l.getD i 0) (by omega) (by omega) (by omega)
        rw [if_pos (by omega)] at this
        rw [if_neg hp, hd, psw, ← Int.add_assoc, Int.one_mul]
        exact this
theorem ref_part {l : List Int} (hb : Bytes l) (hl : l.length ≤ 140737488355328) : Ev (fun k => mosaicref01_Part.f k l) (osum (psum l)) := by
  have := ref_part_l l hb hl l.length 0 0 (by omega) (by omega) (by omega)
  rwa [if_pos (by omega), List.drop_zero, Int.zero_add] at this
theorem ref_add {a b : Int} (ha : 0 ≤ a ∧ a ≤ 65535) (hb : 0 ≤ b ∧ b ≤ 65535) : mosaicref01_Add.f a b = some (osum (a + b)) := by
  unfold mosaicref01_Add.f; rw [w64 (by omega) (by omega), ref_rest (by omega)]; rfl
theorem ref_join {a n b : Int} (ha : 0 ≤ a ∧ a ≤ 65535) (hb : 0 ≤ b ∧ b ≤ 65535) : mosaicref01_Join.f a n b = some (osum (a + if n % 2 = 0 then b else swap b)) := by
  have ht : Int.tmod n 2 = 0 ↔ n % 2 = 0 := by rw [tmod_pos (by omega)]; split <;> omega
  have hs := swap_le hb.1 hb.2
  unfold mosaicref01_Join.f
  by_cases e : n % 2 = 0
  · rw [if_pos (ht.2 e), if_pos e, w64 (by omega) (by omega), ref_rest (by omega)]; rfl
  · rw [if_neg (fun h => e (ht.1 h)), if_neg e, Int.tmod_eq_emod_of_nonneg hb.1, Int.tdiv_eq_ediv_of_nonneg hb.1, w64 (n := b % 256 * 256) (by omega) (by omega), w64 (n := b / 256) (by omega) (by omega), w64 (n := b % 256 * 256 + b / 256) (by omega) (by omega)]
    change ((mosaicref01_rest.f (wrap64 (a + swap b))).bind fun t230 => some t230) = _
    rw [w64 (by omega) (by omega), ref_rest (by omega)]; rfl
theorem ref_patch {s x y : Int} (hs : 0 ≤ s ∧ s ≤ 65535) (hx : 0 ≤ x ∧ x ≤ 65535) (hy : 0 ≤ y ∧ y ≤ 65535) : mosaicref01_Patch.f s x y = some (65535 - osum (65535 - s + (65535 - x) + y)) := by
  have h1 := osum_le (65535 - s + (65535 - x)) (by omega)
  have h2 := osum_le (osum (65535 - s + (65535 - x)) + y) (by omega)
  unfold mosaicref01_Patch.f
  rw [w64 (n := 65535 - s) (by omega) (by omega), w64 (n := 65535 - x) (by omega) (by omega), ref_add (by omega) (by omega), Option.bind_some, ref_add (by omega) (by omega), Option.bind_some, w64 (by omega) (by omega), osum_add_l _ _ (by omega) (by omega)]

theorem plays_j0 {a b c n : Int} (ha : 0 ≤ a ∧ a ≤ 65535) (hb : 0 ≤ b ∧ b ≤ 65535) (hc : 0 ≤ c ∧ c ≤ 65535) : Ev (fun k => mosaiclaw01_SumPlays.j0 k a b c n false) true := by
  refine Ev.step (f := fun k => (sum_Add.f k a b).bind fun t240 => ((mosaicref01_Add.f (wrap64 (a)) (wrap64 (b))).bind fun t241 => (if (wrap64 (t240)) = t241 then ((sum_Join.f k a n b).bind fun t242 => ((mosaicref01_Join.f (wrap64 (a)) n (wrap64 (b))).bind fun t243 => (if (wrap64 (t242)) = t243 then ((sum_Patch.f k a b c).bind fun t244 => ((mosaicref01_Patch.f (wrap64 (a)) (wrap64 (b)) (wrap64 (c))).bind fun t245 => (some ((wrap64 (t244)) == t245)))) else (some false)))) else (some false)))) (fun k => ?_) ?_
  · simp only [mosaiclaw01_SumPlays.j0]; rw [if_neg (by simp)]
  · have hs := swap_le hb.1 hb.2
    have hsel : 0 ≤ (if n % 2 = 0 then b else swap b) ∧ (if n % 2 = 0 then b else swap b) ≤ 65535 := by split <;> omega
    have h1 := osum_le (a + b) (by omega)
    have h2 := osum_le (a + if n % 2 = 0 then b else swap b) (by omega)
    have h3 := osum_le (65535 - a + (65535 - b) + c) (by omega)
    rw [w64 (n := a) (by omega) (by omega), w64 (n := b) (by omega) (by omega), w64 (n := c) (by omega) (by omega), ref_add ha hb, ref_join ha hb, ref_patch ha hb hc]
    refine Ev.bind (f := fun k t => _) (add_any ha hb) ?_
    simp only [Option.bind_some]
    rw [w64 (n := osum (a + b)) (by omega) (by omega)]
    simp only [if_true]
    refine Ev.bind (f := fun k t => _) (join_any ha hb) ?_
    rw [w64 (n := osum (a + if n % 2 = 0 then b else swap b)) (by omega) (by omega)]
    simp only [if_true]
    refine Ev.bind (f := fun k t => _) (patch_any ha hb hc) ?_
    rw [w64 (by omega) (by omega)]
    simp only [beq_self_eq_true]
    exact Ev.now _
theorem SumPlays : mosaiclaw01_SumPlays.Pure := by
  intro l a b c n _ hl wl wa wb wc wn
  have ha := Go.bounds_u16 wa
  have hb := Go.bounds_u16 wb
  have hc := Go.bounds_u16 wc
  have hB := bytes_of wl
  have hp : 0 ≤ osum (psum l) ∧ osum (psum l) ≤ 65535 := osum_le _ (psw_nonneg l hB).1
  refine Ev.rounds ?_
  unfold mosaiclaw01_SumPlays.f
  refine Ev.bind (f := fun k t => if t = true then _ else _) known_any ?_
  simp only [if_true]
  refine Ev.bind (f := fun k t => (mosaicref01_Part.f k l).bind fun t237 => _) (part_any hB (by omega)) ?_
  refine Ev.bind (f := fun k t => _) (ref_part hB (by omega)) ?_
  rw [w64 (n := osum (psum l)) (by omega) (by omega)]
  simp only [if_true]
  refine Ev.bind (f := fun k t => _) (of_any hB (by omega)) ?_
  have h2 : Ev (fun k => mosaicref01_Of.f k l) (65535 - osum (psum l)) := by
    unfold mosaicref01_Of.f
    rw [← w64 (n := 65535 - osum (psum l)) (by omega) (by omega)]
    exact Ev.bind (f := fun k t => some (wrap64 (65535 - t))) (ref_part hB (by omega)) (Ev.now _)
  refine Ev.bind (f := fun k t => _) h2 ?_
  rw [w64 (by omega) (by omega)]
  simp only [bne_self_eq_false]
  exact plays_j0 ha hb hc
end Go.Proofs.Ytoijfhcmjolecaa.Pure
