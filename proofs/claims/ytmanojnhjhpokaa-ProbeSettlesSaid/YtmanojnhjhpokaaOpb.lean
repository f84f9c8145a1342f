/- A list of truth values that came in, as it lies in memory. Conditions: none beyond those of each theorem. -/
import Derived.Test.YtmanojnhjhpokaaOpl
import Derived.Test.YtmanojnhjhpokaaStA
import Derived.Deep.Grids
namespace Go.Proofs.Ytmanojnhjhpokaa.PB
set_option linter.unusedVariables false
set_option linter.unusedSimpArgs false
open Go.RowKit Go.ChangeShapes Go.WideShapes Go.ChangeAt Go.Deep
theorem bytes4 : Try.prog.bytesOf 4 = 1 := by kernel_rfl
theorem open_silent {H : Type} {enc : TypeId × Value → H} {W : World} {r : Reach} {b0 base : Nat} {held : Bool} {v : Value} {d : DataW H} {p : List MemPlace} {ts : List TypeId} {ds : List (DataW H)} {j : Nat}
    (hsz : (DataW.weightsEach Try.prog ts ds).all (· ≤ reachBytes) = true) (ht : ts[j]? = some 42) (hd : ds[j]? = some d) (hv : Value.okWide Try.prog W r b0 42 v) (h : DataW.Trod enc Try.prog W base (fun _ => true) held 42 v d p) :
    ∃ (A0 : Option Addr) (n cap : Nat) (S : Nat → Bool), v = .slice A0 n cap ∧ Bools W A0 n S ∧ n ≤ 140737488355328 := by
  obtain ⟨A0, n, cap, rfl⟩ := WideShapes.okWide_slice Try.underlying42 hv
  obtain ⟨fuel, hf⟩ := h
  rcases open_bools Try.underlying42 Try.underlying4 (by kernel_rfl) hf with ⟨hcs, _⟩ | ⟨x, l, c, B, hcs, _, hl, hm, hx, hcell⟩
  · simp [Value.cells] at hcs
    obtain ⟨rfl, rfl, rfl⟩ := hcs
    exact ⟨none, 0, 0, fun _ => false, rfl, fun h => absurd h (by decide), by decide⟩
  · simp [Value.cells] at hcs
    obtain ⟨rfl, rfl, rfl⟩ := hcs
    obtain ⟨hx, _⟩ := Prod.mk.inj hx
    subst hx
    have z := sized_slice hsz ht hd Try.underlying42
    rw [bytes4] at z
    simp only [List.length_map, List.length_range, reachBytes] at z
    exact ⟨some x, n, cap, B, rfl, fun _ => ⟨x, rfl, fun i hi => hcell i (by omega)⟩, by omega⟩
end Go.Proofs.Ytmanojnhjhpokaa.PB
