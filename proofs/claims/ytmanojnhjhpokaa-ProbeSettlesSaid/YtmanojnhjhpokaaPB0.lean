/- The walk of ProbeBounds: what New refuses, at any numbers. Conditions: none. -/
import Derived.Test.YtmanojnhjhpokaaPS
import Derived.Test.YtmanojnhjhpokaaPM
import Derived.Test.YtmanojnhjhpokaaPX
namespace Go.Proofs.Ytmanojnhjhpokaa.PB
set_option linter.unusedVariables false
set_option linter.unusedSimpArgs false
open Go.RowKit
theorem new_lit (c : Cfg) (w : World) : Calls Try.prog 9 #[.agg #[.int .i64 c.v, .int .i64 c.base, .int .i64 c.most, .int .i64 c.tries, .int .i64 c.losses, .int .i64 c.wait, .int .i64 c.raise]] w fun e w' => (c.Ok → Made c w e w') ∧ (¬ c.Ok → Refused w e w') := new_calls c w
theorem box_at {W W' : World} {b : Nat} (h : Below W.heap.size W W') (hb : b < W.heap.size) : ∀ i, W'.cell? ⟨b, i, none⟩ = W.cell? ⟨b, i, none⟩ := fun i => h.cell (p := ⟨b, i, none⟩) hb
theorem st_path (c : Cfg) (g : Nat) (w : World) (h : Is w g c.path) : Calls Try.prog 14 #[.pointer (some ⟨g, 0, none⟩)] w fun e w' => e = .returned (.int .i64 1) ∧ w' = w := (state_same c.path g w h).mono fun _ _ h => ⟨h.1, h.2.symm⟩
theorem sz_path (c : Cfg) (g : Nat) (w : World) (h : Is w g c.path) : Calls Try.prog 15 #[.pointer (some ⟨g, 0, none⟩)] w fun e w' => e = .returned (.int .i64 c.base) ∧ w' = w := (size_same c.path g w h).mono fun _ _ h => ⟨h.1, h.2.symm⟩
theorem undraw {P : Program} {c : Code} {Q : Exit → Act → World → Prop} {a : Act} {w w2 : World} {n g b : Nat} {s : Pt} (hI : Is w2 g s) (hB : Below w.heap.size w w2) (k : ∀ W', Is W' g s → Below w.heap.size w W' → (∀ i, W'.cell? ⟨b, i, none⟩ = w2.cell? ⟨b, i, none⟩) → w2.heap.size = W'.heap.size → Code.wp P c Q a W') : Code.wp P c Q a (w2.drewN n) := k _ (hI.drewN n) (bdn hB n) (fun _ => rfl) rfl
end Go.Proofs.Ytmanojnhjhpokaa.PB
