/- ProbeBounds answers true of any numbers, and leaves memory as it was. Conditions: none. -/
import Derived.Test.YtmanojnhjhpokaaPB1
import Derived.Test.YtmanojnhjhpokaaPB2
import Derived.Test.YtmanojnhjhpokaaPB3
import Derived.Test.YtmanojnhjhpokaaPB4
import Derived.Test.YtmanojnhjhpokaaPB5
import Derived.Test.YtmanojnhjhpokaaFl
namespace Go.Proofs.Ytmanojnhjhpokaa.PB
set_option linter.unusedVariables false
set_option linter.unusedSimpArgs false
open Go.RowKit
theorem next_path {c : Cfg} (hok : c.Ok) : (c.path.nextA 0).1 = (c.base, 1, 0) := by
  have h1 := hok.raise.1
  unfold Pt.nextA
  rw [if_neg (by unfold Pt.late; show ¬ ((0 : Int) < 0 ∨ _); omega)]
  have e : (({ c.path with now := 0 } : Pt).next 0).1 = (c.base, 1) := by
    unfold Pt.next
    rw [if_neg (by show ¬ (0 : Int) < 0; omega)]
    have er : ({ c.path with now := 0 } : Pt).raised 0 = { c.path with now := 0 } := by
      unfold Pt.raised; rw [if_neg (by show ¬ c.raise ≤ 0 - 0; omega)]
    rw [er]; rfl
  rw [e]
theorem probeBounds_walk (c : Cfg) (w : World) : Calls Try.prog 7 #[.agg #[.int .i64 c.v, .int .i64 c.base, .int .i64 c.most, .int .i64 c.tries, .int .i64 c.losses, .int .i64 c.wait, .int .i64 c.raise]] w fun e w' => e = .returned (.bool true) ∧ Below w.heap.size w w' := by
  by_cases v4 : c.v = 4
  · by_cases b0 : floorOf c.v ≤ c.base
    case neg => exact pb_40 c w v4 b0 (Lib.hid fun k => b0 k.base)
    by_cases b1 : c.base ≤ c.most
    case neg => exact pb_41 c w v4 b0 b1 (Lib.hid fun k => b1 k.most)
    by_cases b2 : c.most ≤ 65535
    case neg => exact pb_42 c w v4 b0 b1 b2 (Lib.hid fun k => b2 k.most1)
    by_cases b3 : 1 ≤ c.tries
    case neg => exact pb_43 c w v4 b0 b1 b2 b3 (Lib.hid fun k => b3 k.tries.1)
    by_cases b4 : c.tries ≤ 16
    case neg => exact pb_44 c w v4 b0 b1 b2 b3 b4 (Lib.hid fun k => b4 k.tries.2)
    by_cases b5 : 1 ≤ c.losses
    case neg => exact pb_45 c w v4 b0 b1 b2 b3 b4 b5 (Lib.hid fun k => b5 k.losses.1)
    by_cases b6 : c.losses ≤ 64
    case neg => exact pb_46 c w v4 b0 b1 b2 b3 b4 b5 b6 (Lib.hid fun k => b6 k.losses.2)
    by_cases b7 : 1 ≤ c.wait
    case neg => exact pb_47 c w v4 b0 b1 b2 b3 b4 b5 b6 b7 (Lib.hid fun k => b7 k.wait.1)
    by_cases b8 : c.wait ≤ 1099511627776
    case neg => exact pb_48 c w v4 b0 b1 b2 b3 b4 b5 b6 b7 b8 (Lib.hid fun k => b8 k.wait.2)
    by_cases b9 : 1 ≤ c.raise
    case neg => exact pb_49 c w v4 b0 b1 b2 b3 b4 b5 b6 b7 b8 b9 (Lib.hid fun k => b9 k.raise.1)
    by_cases b10 : c.raise ≤ 1099511627776
    case neg => exact pb_410 c w v4 b0 b1 b2 b3 b4 b5 b6 b7 b8 b9 b10 (Lib.hid fun k => b10 k.raise.2)
    have hok : c.Ok := ⟨.inl v4, b0, b1, b2, ⟨b3, b4⟩, ⟨b5, b6⟩, ⟨b7, b8⟩, ⟨b9, b10⟩⟩
    exact pb_4g c w v4 b0 b1 b2 b3 b4 b5 b6 b7 b8 b9 b10 hok (Lib.hid (next_path hok))
  by_cases v6 : c.v = 6
  · by_cases b0 : floorOf c.v ≤ c.base
    case neg => exact pb_60 c w v6 b0 (Lib.hid fun k => b0 k.base)
    by_cases b1 : c.base ≤ c.most
    case neg => exact pb_61 c w v6 b0 b1 (Lib.hid fun k => b1 k.most)
    by_cases b2 : c.most ≤ 65535
    case neg => exact pb_62 c w v6 b0 b1 b2 (Lib.hid fun k => b2 k.most1)
    by_cases b3 : 1 ≤ c.tries
    case neg => exact pb_63 c w v6 b0 b1 b2 b3 (Lib.hid fun k => b3 k.tries.1)
    by_cases b4 : c.tries ≤ 16
    case neg => exact pb_64 c w v6 b0 b1 b2 b3 b4 (Lib.hid fun k => b4 k.tries.2)
    by_cases b5 : 1 ≤ c.losses
    case neg => exact pb_65 c w v6 b0 b1 b2 b3 b4 b5 (Lib.hid fun k => b5 k.losses.1)
    by_cases b6 : c.losses ≤ 64
    case neg => exact pb_66 c w v6 b0 b1 b2 b3 b4 b5 b6 (Lib.hid fun k => b6 k.losses.2)
    by_cases b7 : 1 ≤ c.wait
    case neg => exact pb_67 c w v6 b0 b1 b2 b3 b4 b5 b6 b7 (Lib.hid fun k => b7 k.wait.1)
    by_cases b8 : c.wait ≤ 1099511627776
    case neg => exact pb_68 c w v6 b0 b1 b2 b3 b4 b5 b6 b7 b8 (Lib.hid fun k => b8 k.wait.2)
    by_cases b9 : 1 ≤ c.raise
    case neg => exact pb_69 c w v6 b0 b1 b2 b3 b4 b5 b6 b7 b8 b9 (Lib.hid fun k => b9 k.raise.1)
    by_cases b10 : c.raise ≤ 1099511627776
    case neg => exact pb_610 c w v6 b0 b1 b2 b3 b4 b5 b6 b7 b8 b9 b10 (Lib.hid fun k => b10 k.raise.2)
    have hok : c.Ok := ⟨.inr v6, b0, b1, b2, ⟨b3, b4⟩, ⟨b5, b6⟩, ⟨b7, b8⟩, ⟨b9, b10⟩⟩
    exact pb_6g c w v6 b0 b1 b2 b3 b4 b5 b6 b7 b8 b9 b10 hok (Lib.hid (next_path hok))
  exact pb_x c w v4 v6 (Lib.hid fun k => k.v.elim v4 v6)
theorem flat30 : Fl.flatK Try.prog 3 30 = some [.int .i64, .int .i64, .int .i64, .int .i64, .int .i64, .int .i64, .int .i64] := by kernel_rfl
theorem open_cfg {H : Type} {enc : TypeId × Value → H} {W : World} {r : Reach} {b0 base : Nat} {spare : Nat → Bool} {held : Bool} {v : Value} {d : DataW H} {p : List MemPlace} (hv : Value.okWide Try.prog W r b0 30 v) (h : DataW.Trod enc Try.prog W base spare held 30 v d p) :
    ∃ c : Cfg, v = .agg #[.int .i64 c.v, .int .i64 c.base, .int .i64 c.most, .int .i64 c.tries, .int .i64 c.losses, .int .i64 c.wait, .int .i64 c.raise] := by
  obtain ⟨cs, rfl, hs⟩ := WideShapes.okWide_struct Try.underlying30 hv
  obtain ⟨fuel, hf⟩ := h
  obtain ⟨hl, hk⟩ := Fl.flat_fits (P := Try.prog) 3 30 _ fuel _ _ flat30 hf
  have g : ∀ i, i < 7 → ∃ n, cs[i]? = some (.int .i64 n) := fun i hi => by
    obtain ⟨u, hu, n, rfl, _⟩ := hk i (.int .i64) (by
      match i, hi with
      | 0, _ => rfl
      | 1, _ => rfl
      | 2, _ => rfl
      | 3, _ => rfl
      | 4, _ => rfl
      | 5, _ => rfl
      | 6, _ => rfl
      | i + 7, h => omega)
    exact ⟨n, by rw [← Array.getElem?_toList]; exact hu⟩
  obtain ⟨n0, e0⟩ := g 0 (by omega)
  obtain ⟨n1, e1⟩ := g 1 (by omega)
  obtain ⟨n2, e2⟩ := g 2 (by omega)
  obtain ⟨n3, e3⟩ := g 3 (by omega)
  obtain ⟨n4, e4⟩ := g 4 (by omega)
  obtain ⟨n5, e5⟩ := g 5 (by omega)
  obtain ⟨n6, e6⟩ := g 6 (by omega)
  refine ⟨⟨n0, n1, n2, n3, n4, n5, n6⟩, ?_⟩
  congr 1
  have hz : cs.size = 7 := by simpa [Value.cells] using hl
  refine Array.ext_getElem? fun i => ?_
  match i with
  | 0 => exact e0
  | 1 => exact e1
  | 2 => exact e2
  | 3 => exact e3
  | 4 => exact e4
  | 5 => exact e5
  | 6 => exact e6
  | i + 7 => rw [Array.getElem?_eq_none (by omega), Array.getElem?_eq_none (by simp)]
end Go.Proofs.Ytmanojnhjhpokaa.PB
