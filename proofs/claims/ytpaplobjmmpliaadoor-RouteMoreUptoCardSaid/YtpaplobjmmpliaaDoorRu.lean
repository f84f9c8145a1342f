/- An argument that is one route, opened. Conditions: none beyond those that the theorem states. -/
import Derived.Test.YtpaplobjmmpliaaDoorRv
namespace Go.Proofs.YtpaplobjmmpliaaDoor.Ad
open Go.ChangeShapes Go.WideShapes Go.ChangeAt Go.RowKit W
set_option linter.unusedVariables false
set_option linter.unusedSimpArgs false
set_option maxRecDepth 100000 in
/-- An argument of the type api.Route. -/
theorem open_route {H : Type} {enc : TypeId × Value → H} {W : World} {r : Reach} {b0 base : Nat} {spare : Nat → Bool} {held : Bool} {v : Value} {d : DataW H} {p : List MemPlace} (hv : Value.okWide Tryd.prog W r b0 44 v) (h : DataW.Trod enc Tryd.prog W base spare held 44 v d p) :
    ∃ x : Rt, x.wf ∧ v = .agg x.vals.toArray := by
  obtain ⟨cs, rfl, hs⟩ := WideShapes.okWide_struct Tryd.underlying44 hv
  obtain ⟨fuel, hf⟩ := h
  obtain ⟨hl, hk0⟩ := Fl.flat_fits (P := Tryd.prog) 5 44 _ fuel _ _ flatRt hf
  obtain ⟨x, h1, h2⟩ := open_routes_of hl hk0
  exact ⟨x, h1, by congr 1; apply Array.toList_inj.1; rw [← h2]; rfl⟩
end Go.Proofs.YtpaplobjmmpliaaDoor.Ad
