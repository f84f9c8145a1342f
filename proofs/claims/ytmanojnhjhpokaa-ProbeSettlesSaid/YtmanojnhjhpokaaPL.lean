/- The chapter's second example, played by plain Lean: the states of its path, what is said at each step. -/
import Derived.Test.YtmanojnhjhpokaaPR
namespace Go.Proofs.Ytmanojnhjhpokaa.PB
set_option linter.unusedVariables false
set_option linter.unusedSimpArgs false
def usualC : Cfg := ⟨4, 1000, 1500, 2, 3, 10, 100⟩
def c00 : Cfg := ⟨0, 0, 0, 0, 0, 0, 0⟩
def opAt (k : Nat) : Op := match k with
  | 0 => ⟨2, c00, 0, 0, 0⟩
  | 1 => ⟨3, c00, 1, 0, 5⟩
  | 2 => ⟨2, c00, 0, 0, 5⟩
  | 3 => ⟨4, c00, 2, 1400, 6⟩
  | 4 => ⟨2, c00, 0, 0, 6⟩
  | 5 => ⟨3, c00, 3, 0, 7⟩
  | 6 => ⟨2, c00, 0, 0, 7⟩
  | 7 => ⟨4, c00, 4, 1400, 8⟩
  | 8 => ⟨2, c00, 0, 0, 8⟩
  | 9 => ⟨4, c00, 5, 1400, 9⟩
  | 10 => ⟨2, c00, 0, 0, 108⟩
  | _ => ⟨2, c00, 0, 0, 109⟩
def szAt (k : Nat) : Int := match k with
  | 0 => 1000 | 2 => 1500 | 4 => 1400 | 6 => 1401 | 8 => 1401 | 11 => 1500 | _ => 0
def stAt : Nat → Pt
  | 0 => usualC.path
  | k + 1 => (stAt k).after (opAt k)
theorem usual_ok : usualC.Ok := ⟨.inl rfl, by decide, by decide, by decide, by decide, by decide, by decide, by decide⟩
theorem path_inv {c : Cfg} (h : c.Ok) : Inv 0 c.path := by
  obtain ⟨h1, h2, h3, h4, h5, h6, h7, h8⟩ := h
  have := floor_pos c.v
  unfold Inv; dsimp only [Cfg.path]; omega
theorem stAt_inv (k : Nat) : Inv k (stAt k) := by
  induction k with
  | zero => exact path_inv usual_ok
  | succ k ih => have := ih.after (opAt k); rw [stAt]; exact this.mono (by omega)
theorem said (k : Nat) (h : k < 12) : ((stAt k).says (opAt k)).e = 0 ∧ ((stAt k).says (opAt k)).a = szAt k ∧ ((stAt k).says (opAt k)).yes = ((opAt k).kind != 2) := by
  have : ∀ k : Fin 12, ((stAt k.val).says (opAt k.val)).e = 0 ∧ ((stAt k.val).says (opAt k.val)).a = szAt k.val ∧ ((stAt k.val).says (opAt k.val)).yes = ((opAt k.val).kind != 2) := by decide
  exact this ⟨k, h⟩
theorem last_said : (stAt 12).nextA 108 = ((0, 0, 1), stAt 12) ∧ (stAt 12).state = 2 ∧ (stAt 12).size = 1400 := by
  refine ⟨?_, by decide, by decide⟩
  unfold Pt.nextA; rw [if_pos (by decide)]
end Go.Proofs.Ytmanojnhjhpokaa.PB
