/- A list of calls that came in, as it lies in memory. Conditions: none beyond those of each theorem. -/
import Derived.Test.YtmanojnhjhpokaaWiB
import Derived.Test.YtmanojnhjhpokaaFl
import Derived.Deep.Slices
import Derived.SizedLaws
import Derived.WideShapes
namespace Go.Proofs.Ytmanojnhjhpokaa.PB
set_option linter.unusedVariables false
set_option linter.unusedSimpArgs false
open Go.RowKit
theorem flat33 : Fl.flatK Try.prog 4 33 = some [.int .i64, .int .i64, .int .i64, .int .i64, .int .i64, .int .i64, .int .i64, .int .i64, .int .i64, .int .i64, .int .i64] := by kernel_rfl
theorem cells33 : Try.prog.cellsOf 33 = 11 := by kernel_rfl
theorem bytes33 : Try.prog.bytesOf 33 = 88 := by kernel_rfl
theorem add_next (a : Addr) (n : Nat) (j : Nat) (hj : 0 < j) : (a.add n).add j = ⟨(a.add n).block, (a.add n).off + j, none⟩ := by
  have k : ∀ b : Addr, b.add j = ⟨b.block, b.off + j, none⟩ := fun b => by unfold Addr.add; rw [if_neg (by omega)]
  exact k _
theorem op_at {H : Type} {enc : TypeId × Value → H} {W : World} {base : Nat} {spare : Nat → Bool} {held : Bool} {b : Addr} {cs : List Value} {fuel : Nat} {x : DataW H × List MemPlace} (hb : ∀ j, 0 < j → b.add j = ⟨b.block, b.off + j, none⟩)
    (h : W.cells? base b 11 = some cs) (hf : DataW.trod enc Try.prog W base spare held fuel 33 cs = some x) : ∃ o : Op, OpAt W b o := by
  obtain ⟨_, hl, hc⟩ := World.cells?_some h
  obtain ⟨_, hk⟩ := Fl.flat_fits (P := Try.prog) 4 33 _ fuel _ _ flat33 hf
  have g : ∀ i, i < 11 → ∃ n, W.cell? (b.add i) = some (.int .i64 n) := fun i hi => by
    obtain ⟨u, hu, n, rfl, _⟩ := hk i (.int .i64) (by
      match i, hi with
      | 0, _ => rfl
      | 1, _ => rfl
      | 2, _ => rfl
      | 3, _ => rfl
      | 4, _ => rfl
      | 5, _ => rfl
      | 6, _ => rfl
      | 7, _ => rfl
      | 8, _ => rfl
      | 9, _ => rfl
      | 10, _ => rfl
      | i + 11, h => omega)
    exact ⟨n, by rw [hc i hi]; exact hu⟩
  obtain ⟨n0, e0⟩ := g 0 (by omega)
  obtain ⟨n1, e1⟩ := g 1 (by omega)
  obtain ⟨n2, e2⟩ := g 2 (by omega)
  obtain ⟨n3, e3⟩ := g 3 (by omega)
  obtain ⟨n4, e4⟩ := g 4 (by omega)
  obtain ⟨n5, e5⟩ := g 5 (by omega)
  obtain ⟨n6, e6⟩ := g 6 (by omega)
  obtain ⟨n7, e7⟩ := g 7 (by omega)
  obtain ⟨n8, e8⟩ := g 8 (by omega)
  obtain ⟨n9, e9⟩ := g 9 (by omega)
  obtain ⟨n10, e10⟩ := g 10 (by omega)
  rw [hb _ (by omega)] at e1 e2 e3 e4 e5 e6 e7 e8 e9 e10
  exact ⟨⟨n0, ⟨n1, n2, n3, n4, n5, n6, n7⟩, n8, n9, n10⟩, e0, e1, e2, e3, e4, e5, e6, e7, e8, e9, e10⟩
theorem open_script {H : Type} {enc : TypeId × Value → H} {W : World} {r : Reach} {b0 base : Nat} {spare : Nat → Bool} {held : Bool} {v : Value} {d : DataW H} {p : List MemPlace} {ts : List TypeId} {ds : List (DataW H)} {j : Nat}
    (hsz : (DataW.weightsEach Try.prog ts ds).all (· ≤ reachBytes) = true) (ht : ts[j]? = some 22) (hd : ds[j]? = some d) (hv : Value.okWide Try.prog W r b0 22 v) (h : DataW.Trod enc Try.prog W base spare held 22 v d p) :
    ∃ (A0 : Option Addr) (n cap : Nat) (O : Nat → Op), v = .slice A0 n cap ∧ (0 < n → ∃ a, A0 = some a ∧ Script W a n O) ∧ n ≤ 1599289640354 := by
  obtain ⟨A0, n, cap, rfl⟩ := WideShapes.okWide_slice Try.underlying22 hv
  obtain ⟨fuel, hf⟩ := h
  rcases Deep.open_slice Try.underlying22 hf with ⟨hcs, _⟩ | ⟨a, len, cp, m, k, D, Pl, hcs, _, hl, _, hm, hx, hel⟩
  · simp [Value.cells] at hcs
    obtain ⟨rfl, rfl, rfl⟩ := hcs
    exact ⟨none, 0, 0, fun _ => ⟨0, ⟨0, 0, 0, 0, 0, 0, 0⟩, 0, 0, 0⟩, rfl, fun h => absurd h (by decide), by decide⟩
  · simp [Value.cells] at hcs
    obtain ⟨rfl, rfl, rfl⟩ := hcs
    obtain ⟨hx, _⟩ := Prod.mk.inj hx
    subst hx
    have z := sized_slice hsz ht hd Try.underlying22
    rw [bytes33] at z
    have hnm : n ≤ m := by rw [hm]; split <;> omega
    have key : ∀ i, ∃ o : Op, i < n → OpAt W (a.add (i * 11)) o := fun i => by
      by_cases hi : i < n
      · obtain ⟨cs', h1, h2⟩ := hel i (by omega)
        rw [cells33] at h1
        obtain ⟨o, ho⟩ := op_at (fun j hj => add_next a (i * 11) j hj) h1 h2
        exact ⟨o, fun _ => ho⟩
      · exact ⟨⟨0, ⟨0, 0, 0, 0, 0, 0, 0⟩, 0, 0, 0⟩, fun h => absurd h hi⟩
    refine ⟨some a, n, cap, fun i => (key i).choose, rfl, fun _ => ⟨a, rfl, fun i hi => (key i).choose_spec hi⟩, ?_⟩
    simp only [List.length_map, List.length_range, reachBytes] at z
    omega
end Go.Proofs.Ytmanojnhjhpokaa.PB
