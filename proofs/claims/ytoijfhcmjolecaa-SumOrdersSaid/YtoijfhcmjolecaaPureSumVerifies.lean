/- SumVerifies, as a statement over a list: with its checksum laid into two bytes that were 0, at an even place, a string's Part is 65535. Conditions: a list of bytes that takes at most 2^47 - 4096 bytes, a number of 64 bits. -/
import Derived.Test.YtoijfhcmjolecaaPAllx4
import Derived.Test.YtoijfhcmjolecaaSumE
namespace Go.Proofs.Ytoijfhcmjolecaa.Pure
set_option linter.unusedVariables false
set_option linter.unusedSimpArgs false
open Go.RowKit Go.Proofs.Ytoijfhcmjolecaa.PAll Go.Proofs.YtoijfhcmjolecaaW.PrintWords Go.Proofs.YtoijfhcmjolecaaW.PrintLast Go.Proofs.Ytoijfhcmjolecaa.SumT Go.Proofs.Ytoijfhcmjolecaa.SumE

theorem psum_nonneg (l : List Int) (h : Bytes l) : 0 ≤ psum l := (psw_nonneg l h).1
theorem own_any {l : List Int} (hl : l.length ≤ 140737488351235) : mosaiclaw01_own.f l = some l := by
  unfold mosaiclaw01_own.f; rw [if_pos (by simp; omega), List.nil_append]
theorem getD_set_eq (l : List Int) (n : Nat) (a : Int) (h : n < l.length) : (l.set n a).getD n 0 = a := by
  rw [List.getD_eq_getElem?_getD, List.getElem?_set_self h]; rfl
theorem getD_set_ne (l : List Int) (n m : Nat) (a : Int) (h : n ≠ m) : (l.set n a).getD m 0 = l.getD m 0 := by
  rw [List.getD_eq_getElem?_getD, List.getElem?_set_ne h, List.getD_eq_getElem?_getD]
/-- A word laid at an even place. -/
theorem psum_word (l : List Int) (n : Nat) (he : n % 2 = 0) (hn : n + 1 < l.length) (a b : Int) : psum ((l.set n a).set (n + 1) b) = psum l + (256 * a + b) - (256 * l.getD n 0 + l.getD (n + 1) 0) := by
  have h1 := (psw_set (l.set n a) (n + 1) (by simpa using hn) b).1
  have h2 := (psw_set l n (by omega) a).1
  rw [if_neg (by omega), getD_set_ne _ _ _ _ (by omega)] at h1
  rw [if_pos he] at h2
  show psw 256 _ = psw 256 _ + _ - _
  rw [h1, h2]; omega

theorem word_split {s : Int} (h : 0 ≤ s) (h1 : s ≤ 65535) : 256 * (s / 256 % 256) + s % 256 = s := by omega
theorem verif_arith {P o v : Int} (hP : 0 ≤ P) (ho : 0 ≤ o ∧ o ≤ 65535) (hm : o % 65535 = P % 65535) (hv : v = P + (65535 - o)) (hz : o = 0 ↔ P = 0) : osum v = 65535 := by
  refine (osum_of (n := v) (by omega) (by omega) (by omega) ?_ ?_).symm
  · have : (P - o) % 65535 = 0 := by omega
    omega
  · constructor <;> intro <;> omega

theorem SumVerifies : mosaiclaw01_SumVerifies.Pure := by
  intro l n _ hl wl wn
  have hB := bytes_of wl
  have hC : Bytes (l ++ [0, 0, 0]) := hB.append (by intro x hx; simp at hx; omega)
  have hlen : (l ++ [0, 0, 0]).length = l.length + 3 := by simp
  refine Ev.rounds ?_
  unfold mosaiclaw01_SumVerifies.f
  refine ev_bind (own_any (by omega)) ?_
  refine ev_bind rfl ?_
  generalize hc : l ++ [0, 0, 0] = c at *
  refine ev_pos (by simp; omega) ?_
  refine ev_bind (a := c) rfl ?_
  have e1 : wrap64 (wrap64 ((c.length : Int) / 2) - 1) = (c.length : Int) / 2 - 1 := by rw [w64 (n := (c.length : Int) / 2) (by omega) (by omega), w64 (by omega) (by omega)]
  obtain ⟨r, hr, hr0, hr1⟩ := rest_any n (most := (c.length : Int) / 2 - 1) (by omega) (by omega)
  refine ev_bind (by rw [e1]; exact hr) ?_
  obtain ⟨r, rfl⟩ := Int.eq_ofNat_of_zero_le hr0
  have e2 : wrap64 (2 * (r : Int)) = ((2 * r : Nat) : Int) := by rw [w64 (by omega) (by omega)]; omega
  have e3 : wrap64 (((2 * r : Nat) : Int) + 1) = ((2 * r + 1 : Nat) : Int) := by rw [w64 (by omega) (by omega)]; omega
  rw [e2, e3]
  refine ev_pos (by omega) ?_
  refine ev_pos (by omega) ?_
  refine ev_pos (by omega) ?_
  refine ev_pos (by omega) ?_
  rw [Int.toNat_natCast, Int.toNat_natCast]
  have hz : Bytes ((c.set (2 * r) 0).set (2 * r + 1) 0) := (hC.set _ (by omega)).set _ (by omega)
  have hzl : ((c.set (2 * r) 0).set (2 * r + 1) 0).length = c.length := by simp
  have g1 : ((c.set (2 * r) 0).set (2 * r + 1) 0).getD (2 * r) 0 = 0 := by rw [getD_set_ne _ _ _ _ (by omega), getD_set_eq _ _ _ (by omega)]
  have g2 : ((c.set (2 * r) 0).set (2 * r + 1) 0).getD (2 * r + 1) 0 = 0 := getD_set_eq _ _ _ (by simp; omega)
  generalize (c.set (2 * r) 0).set (2 * r + 1) 0 = z at *
  have hs : 0 ≤ osum (psum z) ∧ osum (psum z) ≤ 65535 := osum_le _ (psum_nonneg z hz)
  have hm := osum_mod (psum z)
  have h0 := (psum_nonneg z hz)
  refine ev_bind rfl ?_
  refine Ev.bind (f := fun k t => _) (of_any hz (by omega)) ?_
  generalize hg : 65535 - osum (psum z) = s at *
  have hw := psum_word z (2 * r) (by omega) (by omega) (s / 256 % 256) (s % 256)
  have hv : Bytes ((z.set (2 * r) (s / 256 % 256)).set (2 * r + 1) (s % 256)) := (hz.set _ (by omega)).set _ (by omega)
  have hvl : ((z.set (2 * r) (s / 256 % 256)).set (2 * r + 1) (s % 256)).length = c.length := by simp [hzl]
  rw [g1, g2] at hw
  generalize (z.set (2 * r) (s / 256 % 256)).set (2 * r + 1) (s % 256) = v at *
  have hv0 := (psum_nonneg v hv)
  have hs8 : 256 * (s / 256 % 256) + s % 256 = s := word_split (by omega) (by omega)
  rw [hs8] at hw
  have hfin : osum (psum v) = 65535 := verif_arith h0 hs hm (by omega) (osum_zero _ h0)
  refine ev_bind rfl ?_
  refine Ev.bind (f := fun k t => if t = true then _ else _) known_any ?_
  refine ev_pos rfl ?_
  have p1 := part_any hv (by omega)
  have p2 := of_any hv (by omega)
  rw [hfin] at p1 p2
  refine Ev.bind (f := fun k t => if t = 65535 then _ else _) p1 ?_
  refine ev_pos rfl ?_
  exact Ev.bind (f := fun k t => some (t == 0)) p2 (Ev.now _)
end Go.Proofs.Ytoijfhcmjolecaa.Pure
