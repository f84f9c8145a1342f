/- A list of numbers that came in, as it lies in memory. Conditions: none beyond those of each theorem. -/
import Derived.Test.YtmanojnhjhpokaaHoB
import Derived.OpenShut
import Derived.ChangeOld
import Derived.WalkKit
import Derived.ProofKit
import Derived.SizedLaws
import Derived.WideShapes
namespace Go.Proofs.Ytmanojnhjhpokaa.PB
set_option linter.unusedVariables false
set_option linter.unusedSimpArgs false
open Go.RowKit Go.ChangeShapes Go.WideShapes Go.ChangeAt
theorem bytes3 : Try.prog.bytesOf 3 = 8 := by kernel_rfl
theorem open_list {H : Type} {enc : TypeId × Value → H} {W : World} {r : Reach} {b0 base : Nat} {spare : Nat → Bool} {held : Bool} {v : Value} {d : DataW H} {p : List MemPlace} {ts : List TypeId} {ds : List (DataW H)} {j : Nat}
    (hsz : (DataW.weightsEach Try.prog ts ds).all (· ≤ reachBytes) = true) (ht : ts[j]? = some 54) (hd : ds[j]? = some d) (hv : Value.okWide Try.prog W r b0 54 v) (h : DataW.Trod enc Try.prog W base spare held 54 v d p) :
    ∃ (A0 : Option Addr) (n cap : Nat) (V : Nat → Int), v = .slice A0 n cap ∧ Ints W A0 n V ∧ n ≤ 17592186044404 := by
  obtain ⟨A0, n, cap, rfl⟩ := WideShapes.okWide_slice Try.underlying54 hv
  obtain ⟨fuel, hf⟩ := h
  rcases open_ints Try.underlying54 Try.underlying3 (by kernel_rfl) hf with ⟨hcs, _⟩ | ⟨x, l, c, zs, hcs, _, hl, hm, hz, hx, hcell, hwz⟩
  · simp [Value.cells] at hcs
    obtain ⟨rfl, rfl, rfl⟩ := hcs
    exact ⟨none, 0, 0, fun _ => 0, rfl, fun h => absurd h (by decide), by decide⟩
  · simp [Value.cells] at hcs
    obtain ⟨rfl, rfl, rfl⟩ := hcs
    obtain ⟨hx, _⟩ := Prod.mk.inj hx
    subst hx
    have hlz : n ≤ zs.length := by
      rw [hz]; split
      · exact hl
      · exact Nat.le_refl _
    have z := sized_slice hsz ht hd Try.underlying54
    rw [bytes3] at z
    simp only [lits, List.length_map, List.length_take, List.length_drop, reachBytes] at z
    exact ⟨some x, n, cap, fun i => zs.getD i 0, rfl, fun _ => ⟨x, rfl, fun i hi => hcell i (by omega)⟩, by omega⟩
end Go.Proofs.Ytmanojnhjhpokaa.PB
