/- SumPatches, as a statement over a list: Patch tells the checksum of the changed string, but of one that is all noughts, where it tells 0; and the way back. Conditions: a list of bytes that takes at most 2^47 - 4096 bytes, a number of 64 bits, one of 16. -/
import Derived.Test.YtoijfhcmjolecaaPAllx5
import Derived.Test.YtoijfhcmjolecaaPureSumVerifies
import Derived.Test.YtoijfhcmjolecaaSumF
namespace Go.Proofs.Ytoijfhcmjolecaa.Pure
set_option linter.unusedVariables false
set_option linter.unusedSimpArgs false
open Go.RowKit Go.Proofs.Ytoijfhcmjolecaa.PAll Go.Proofs.YtoijfhcmjolecaaW.PrintWords Go.Proofs.YtoijfhcmjolecaaW.PrintLast Go.Proofs.Ytoijfhcmjolecaa.SumT Go.Proofs.Ytoijfhcmjolecaa.SumE

/-- What Patch comes to, where the word 'was' of a sum C becomes 'now', a sum D. -/
theorem patch_arith {C D was now : Int} (hC : was ≤ C) (hw : 0 ≤ was ∧ was ≤ 65535) (hn : 0 ≤ now ∧ now ≤ 65535) (hD : D = C - was + now) :
    65535 - osum (65535 - (65535 - osum C) + (65535 - was) + now) = if D = 0 then 0 else 65535 - osum D := by
  have h1 := osum_le C (by omega)
  have h2 := osum_mod C
  have h3 := osum_zero C (by omega)
  have e : 65535 - (65535 - osum C) + (65535 - was) + now = osum C + 65535 - was + now := by omega
  rw [e]
  have hm : (osum C + 65535 - was + now) % 65535 = D % 65535 := by
    have e1 : (osum C - C) % 65535 = 0 := by omega
    have e2 : osum C + 65535 - was + now = (osum C - C) + 65535 + D := by omega
    rw [e2]; omega
  have hp : 0 < osum C + 65535 - was + now := by
    by_cases hc : C = 0
    · omega
    · have : osum C ≠ 0 := fun e => hc (h3.1 e)
      omega
  split
  · rename_i h0
    have : 65535 = osum (osum C + 65535 - was + now) := osum_of (by omega) (by omega) (by omega) (by omega) (by constructor <;> intro <;> omega)
    omega
  · rename_i h0
    have : osum D = osum (osum C + 65535 - was + now) := osum_eq (by omega) (by omega) hm.symm (by constructor <;> intro <;> omega)
    omega
theorem psum_get2 (l : List Int) (hb : Bytes l) (n : Nat) (he : n % 2 = 0) (hn : n + 1 < l.length) : 256 * l.getD n 0 + l.getD (n + 1) 0 ≤ psum l := by
  have h := psum_word l n he hn 0 0
  have := psum_nonneg _ ((hb.set n (a := 0) (by omega)).set (n + 1) (a := 0) (by omega))
  omega

theorem patches {c : List Int} (hB : Bytes c) (h2 : 2 ≤ c.length) (hl : c.length ≤ 140737488351234) (at_ now : Int) (hnow : 0 ≤ now ∧ now ≤ 65535) : Ev (fun k => mosaiclaw01_SumPatches.j0 k at_ now c) true := by
  have e1 : wrap64 (wrap64 ((c.length : Int) / 2) - 1) = (c.length : Int) / 2 - 1 := by rw [w64 (n := (c.length : Int) / 2) (by omega) (by omega), w64 (by omega) (by omega)]
  obtain ⟨r, hr, hr0, hr1⟩ := rest_any at_ (most := (c.length : Int) / 2 - 1) (by omega) (by omega)
  obtain ⟨r, rfl⟩ := Int.eq_ofNat_of_zero_le hr0
  have e2 : wrap64 (2 * (r : Int)) = ((2 * r : Nat) : Int) := by rw [w64 (by omega) (by omega)]; omega
  have e3 : wrap64 (((2 * r : Nat) : Int) + 1) = ((2 * r + 1 : Nat) : Int) := by rw [w64 (by omega) (by omega)]; omega
  refine Ev.step (f := fun k => _) (fun k => by simp only [mosaiclaw01_SumPatches.j0]; rfl) ?_
  refine ev_bind (by rw [e1]; exact hr) ?_
  rw [e2, e3]
  refine ev_pos (by omega) ?_
  refine ev_pos (by omega) ?_
  refine ev_pos (by omega) ?_
  refine ev_pos (by omega) ?_
  refine ev_bind (own_any (by omega)) ?_
  refine ev_pos (by omega) ?_
  refine ev_pos (by omega) ?_
  refine ev_bind rfl ?_
  rw [Int.toNat_natCast, Int.toNat_natCast, rd_get, rd_get]
  have g1 := hB.get (2 * r)
  have g2 := hB.get (2 * r + 1)
  have hd := psum_word c (2 * r) (by omega) (by omega) (now / 256 % 256) (now % 256)
  rw [word_split hnow.1 hnow.2] at hd
  have hw := psum_get2 c hB (2 * r) (by omega) (by omega)
  have hBd : Bytes ((c.set (2 * r) (now / 256 % 256)).set (2 * r + 1) (now % 256)) := (hB.set _ (by omega)).set _ (by omega)
  have hld : ((c.set (2 * r) (now / 256 % 256)).set (2 * r + 1) (now % 256)).length = c.length := by simp
  generalize (c.set (2 * r) (now / 256 % 256)).set (2 * r + 1) (now % 256) = d at *
  have ew : Go.bits .or .u16 (IntKind.u16.wrap (IntKind.u16.wrap (c.getD (2 * r) 0) * 256)) (IntKind.u16.wrap (c.getD (2 * r + 1) 0)) = 256 * c.getD (2 * r) 0 + c.getD (2 * r + 1) 0 := by
    rw [wrap_u16 (c.getD (2 * r) 0) (by omega) (by omega), wrap_u16 (c.getD (2 * r) 0 * 256) (by omega) (by omega), wrap_u16 (c.getD (2 * r + 1) 0) (by omega) (by omega), or_word16 g1 g2]; omega
  rw [ew]
  have hwas : 0 ≤ 256 * c.getD (2 * r) 0 + c.getD (2 * r + 1) 0 ∧ 256 * c.getD (2 * r) 0 + c.getD (2 * r + 1) 0 ≤ 65535 := by omega
  generalize 256 * c.getD (2 * r) 0 + c.getD (2 * r + 1) 0 = was at *
  have hC := psum_nonneg c hB
  have hD := psum_nonneg d hBd
  have oC := osum_le _ hC
  have oD := osum_le _ hD
  have zC := osum_zero _ hC
  have zD := osum_zero _ hD
  have pa := patch_arith (C := psum c) (D := psum d) hw hwas hnow (by omega)
  have pb := patch_arith (C := psum d) (D := psum c) (was := now) (now := was) (by omega) hnow hwas (by omega)
  have P1 := patch_any (s := 65535 - osum (psum c)) (x := was) (y := now) (by omega) hwas hnow
  have P2 := patch_any (s := 65535 - osum (psum d)) (x := now) (y := was) (by omega) hnow hwas
  rw [pa] at P1; rw [pb] at P2
  have Pc := part_any hB (by omega)
  have Pd := part_any hBd (by omega)
  refine Ev.bind (f := fun k t => _) (of_any hB (by omega)) ?_
  refine Ev.bind (f := fun k t => _) (of_any hBd (by omega)) ?_
  refine Ev.bind (f := fun k t => _) P1 ?_
  refine Ev.bind (f := fun k t => if t = true then _ else _) known_any ?_
  refine ev_pos rfl ?_
  refine Ev.bind (f := fun k t => _) Pd ?_
  by_cases hz : psum d = 0
  · refine ev_pos (zD.2 hz) ?_
    rw [if_pos hz]
    refine ev_pos rfl ?_
    rw [zD.2 hz]; exact Ev.now _
  · refine ev_neg (fun h => hz (zD.1 h)) ?_
    rw [if_neg hz]
    refine Ev.bind (f := fun k t => _) Pc ?_
    by_cases hy : psum c = 0
    · refine ev_pos (zC.2 hy) ?_
      refine ev_pos rfl ?_
      rw [if_pos hy] at P2
      exact Ev.bind (f := fun k t => some (t == 0)) P2 (Ev.now _)
    · refine ev_neg (fun h => hy (zC.1 h)) ?_
      refine ev_pos rfl ?_
      rw [if_neg hy] at P2
      refine Ev.bind (f := fun k t => some (t == 65535 - osum (psum c))) P2 ?_
      simp only [beq_self_eq_true]; exact Ev.now _

theorem SumPatches : mosaiclaw01_SumPatches.Pure := by
  intro l n now _ hl wl wn wnow
  have hB := bytes_of wl
  refine Ev.rounds ?_
  unfold mosaiclaw01_SumPatches.f
  refine ev_bind (own_any (by omega)) ?_
  by_cases h : (l.length : Int) < 2
  · refine ev_pos h ?_
    refine ev_bind rfl ?_
    refine ev_pos (by simp; omega) ?_
    exact patches (hB.append (by intro x hx; simp at hx; omega)) (by simp) (by simp; omega) n now (Go.bounds_u16 wnow)
  · refine ev_neg h ?_
    exact patches hB (by omega) (by omega) n now (Go.bounds_u16 wnow)
end Go.Proofs.Ytoijfhcmjolecaa.Pure
