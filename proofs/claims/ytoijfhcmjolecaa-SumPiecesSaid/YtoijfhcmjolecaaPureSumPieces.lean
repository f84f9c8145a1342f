/- SumPieces, as a statement over lists: however bytes are cut, the pieces' Parts joined from the front are the whole's. Conditions: a list of bytes and a list of cuts, each of which takes at most 2^47 - 4096 bytes. -/
import Derived.Test.YtoijfhcmjolecaaPAllx1
import Derived.Test.YtoijfhcmjolecaaSumE
namespace Go.Proofs.Ytoijfhcmjolecaa.Pure
set_option linter.unusedVariables false
set_option linter.unusedSimpArgs false
open Go.RowKit Go.Proofs.Ytoijfhcmjolecaa.PAll Go.Proofs.YtoijfhcmjolecaaW.PrintWords Go.Proofs.YtoijfhcmjolecaaW.PrintLast Go.Proofs.Ytoijfhcmjolecaa.SumT Go.Proofs.Ytoijfhcmjolecaa.SumE

theorem part_le (l : List Int) (hb : Bytes l) : 0 ≤ osum (psum l) ∧ osum (psum l) ≤ 65535 := osum_le _ (psw_nonneg l hb).1
/-- Join of two Parts is the Part of the two behind each other. -/
theorem join_parts {l m : List Int} (hl : Bytes l) (hm : Bytes m) {n : Int} (hn : n % 2 = (l.length : Int) % 2) : Ev (fun k => sum_Join.f k (osum (psum l)) n (osum (psum m))) (osum (psum (l ++ m))) := by
  have h := join_any (n := n) (part_le l hl) (part_le m hm)
  have e : osum (psum (l ++ m)) = osum (osum (psum l) + if n % 2 = 0 then osum (psum m) else swap (osum (psum m))) := by
    rw [show osum (psum (l ++ m)) = _ from part_append l m hl hm]
    by_cases e : l.length % 2 = 0
    · rw [if_pos e, if_pos (by omega)]
    · rw [if_neg e, if_neg (by omega)]
  rw [e]; exact h

section
variable {l cuts : List Int} (hl : Bytes l) (hl1 : l.length ≤ 140737488351232) (hc : cuts.length ≤ 140737488351232)
include hl hl1 hc
theorem pieces (d : Nat) : ∀ (i at_ : Nat), i + d = cuts.length → at_ ≤ l.length →
    Ev (fun k => mosaiclaw01_SumPieces.l0 k l cuts (osum (psum l)) at_ at_ (osum (psum (l.take at_))) i) true := by
  have tail : ∀ (i at_ : Nat), i ≤ cuts.length → at_ ≤ l.length →
      ∀ z : Nat, at_ ≤ z → z ≤ l.length → Ev (fun k => mosaiclaw01_SumPieces.l0 k l cuts (osum (psum l)) z z (osum (psum (l.take z))) (i + 1 : Nat)) true → Ev (fun k => mosaiclaw01_SumPieces.j1 k l cuts (osum (psum l)) at_ at_ (osum (psum (l.take at_))) i z) true := by
    intro i at_ hi hat z h1 h2 next
    refine Ev.step (f := fun k => (sum_Part.f k ((l.take z).drop at_)).bind fun t129 => ((sum_Join.f k (osum (psum (l.take at_))) at_ t129).bind fun t130 => (if (0 : Int) ≤ (z : Int) then ((sum_Part.f k (l.take z)).bind fun t132 => (if t130 = t132 then ((sum_Part.f k (l.drop z)).bind fun t134 => ((sum_Join.f k t130 z t134).bind fun t135 => (if t135 = osum (psum l) then (mosaiclaw01_SumPieces.l0 k l cuts (osum (psum l)) z (wrap64 ((wrap64 ((at_ : Int) + z)) - at_)) t130 (wrap64 (i + 1))) else (some false)))) else (some false))) else (none)))) (fun k => ?_) ?_
    · simp only [mosaiclaw01_SumPieces.j1]
      rw [if_pos (by omega), if_pos (by omega), if_pos (by omega)]
      simp only [Int.toNat_natCast]
    · have hlen : (l.take at_).length = at_ := by rw [List.length_take]; omega
      have hlen' : (l.take z).length = z := by rw [List.length_take]; omega
      have e1 : l.take at_ ++ (l.take z).drop at_ = l.take z := by
        have := List.take_append_drop at_ (l.take z)
        rwa [List.take_take, Nat.min_eq_left h1] at this
      have e2 : l.take z ++ l.drop z = l := List.take_append_drop z l
      have e3 : wrap64 (wrap64 ((at_ : Int) + z) - at_) = z := by rw [w64 (n := (at_ : Int) + z) (by omega) (by omega), w64 (by omega) (by omega)]; omega
      have e4 : wrap64 ((i : Int) + 1) = ((i + 1 : Nat) : Int) := by rw [w64 (by omega) (by omega)]; omega
      have j1 := join_parts (l := l.take at_) (m := (l.take z).drop at_) (hl.take _) ((hl.take _).drop _) (n := at_) (by rw [hlen])
      have j2 := join_parts (l := l.take z) (m := l.drop z) (hl.take _) (hl.drop _) (n := z) (by rw [hlen'])
      rw [e1] at j1; rw [e2] at j2
      refine Ev.bind (f := fun k t => _) (part_any ((hl.take _).drop _) (by simp; omega)) ?_
      refine Ev.bind (f := fun k t => _) j1 ?_
      simp only [if_pos (show (0 : Int) ≤ (z : Int) by omega)]
      refine Ev.bind (f := fun k t => _) (part_any (hl.take z) (by simp; omega)) ?_
      simp only [if_true]
      refine Ev.bind (f := fun k t => _) (part_any (hl.drop z) (by simp; omega)) ?_
      refine Ev.bind (f := fun k t => _) j2 ?_
      simp only [if_true]
      rw [e3, e4]
      exact next
  induction d with
  | zero =>
    intro i at_ hi hat
    refine Ev.step (f := fun k => mosaiclaw01_SumPieces.j1 k l cuts (osum (psum l)) at_ at_ (osum (psum (l.take at_))) i (l.length : Int)) (fun k => ?_) ?_
    · simp only [mosaiclaw01_SumPieces.l0]; rw [if_pos (by omega), if_neg (by omega)]
    · refine tail i at_ (by omega) hat l.length hat (Nat.le_refl _) ?_
      refine Ev.step (f := fun _ => some (osum (psum (l.take l.length)) == osum (psum l))) (fun k => ?_) ?_
      · simp only [mosaiclaw01_SumPieces.l0]; rw [if_neg (by omega)]
      · rw [List.take_length, beq_self_eq_true]; exact Ev.now _
  | succ d ih =>
    intro i at_ hi hat
    have hr := rest_any (rd cuts i) (most := wrap64 ((l.length : Int) - at_)) (by rw [w64 (by omega) (by omega)]; omega) (by rw [w64 (by omega) (by omega)]; omega)
    obtain ⟨r, hr, hr0, hr1⟩ := hr
    rw [w64 (n := (l.length : Int) - at_) (by omega) (by omega)] at hr1
    obtain ⟨r, rfl⟩ := Int.eq_ofNat_of_zero_le hr0
    refine Ev.step (f := fun k => mosaiclaw01_SumPieces.j1 k l cuts (osum (psum l)) at_ at_ (osum (psum (l.take at_))) i ((at_ + r : Nat) : Int)) (fun k => ?_) ?_
    · simp only [mosaiclaw01_SumPieces.l0]; rw [if_pos (by omega), if_pos (by omega), if_pos (by omega), hr, Option.bind_some, w64 (by omega) (by omega)]; rfl
    · exact tail i at_ (by omega) hat _ (by omega) (by omega) (ih (i + 1) _ (by omega) (by omega))
end
theorem SumPieces : mosaiclaw01_SumPieces.Pure := by
  intro l cuts _ hl wl _ hc wc
  have hB := bytes_of wl
  refine Ev.rounds ?_
  unfold mosaiclaw01_SumPieces.f
  refine Ev.bind (f := fun k t => if t = true then _ else _) known_any ?_
  simp only [if_true]
  refine Ev.bind (f := fun k t => mosaiclaw01_SumPieces.l0 k l cuts t 0 0 0 0) (part_any hB (by omega)) ?_
  have := pieces hB (by omega) (by omega : cuts.length ≤ 140737488351232) cuts.length 0 0 (by omega) (by omega)
  simpa [show osum (psum ([] : List Int)) = 0 from rfl] using this
end Go.Proofs.Ytoijfhcmjolecaa.Pure
