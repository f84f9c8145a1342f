/- What the six rows share: an argument opened as an address, the listed tables, a world for the witness. Conditions: none beyond those that each theorem states. -/
import Derived.Test.YtpaplobjmmpliaaDoorFl
import Derived.Test.YtpaplobjmmpliaaDoorCards
import Derived.Test.YtpaplobjmmpliaaDoorTie
import Derived.Test.YtpaplobjmmpliaaDoorBf
import Derived.WalkKit
import Derived.ProofKit
import Derived.OpenShut
import Derived.ShutString
import Derived.ChangeOld
import Derived.Below
import Derived.SizedLaws
import Derived.Carry
import Derived.Deep.DeepHandedRow
import Derived.Lib.LaidTab
import Derived.Shelf.Vars
namespace Go.Proofs.YtpaplobjmmpliaaDoor.Ad
open Go.ChangeShapes Go.WideShapes Go.ChangeAt Go.RowKit W
set_option linter.unusedVariables false
set_option linter.unusedSimpArgs false
theorem flatAd : Fl.flatK Tryd.prog 4 35 = some (.int .i64 :: List.replicate 16 (.int .u8)) := by kernel_rfl
theorem byte_of {n : Int} (h : (Lit.int .u8 n).wf = true) : ∃ x : UInt8, Value.int .u8 n = by8 x := by
  have hx : 0 ≤ n ∧ n ≤ 255 := by simpa [Lit.wf, IntKind.min, IntKind.max, IntKind.signed, IntKind.bits] using h
  refine ⟨UInt8.ofNat n.toNat, ?_⟩
  unfold by8
  congr 1
  rw [UInt8.toNat_ofNat', Nat.mod_eq_of_lt (by omega)]
  omega
theorem bytes_of : ∀ (n : Nat) (cs : List Value), cs.length = n → (∀ i, i < n → ∃ x : UInt8, cs[i]? = some (by8 x)) → ∃ l : List UInt8, l.length = n ∧ cs = l.map by8
  | 0, cs, hl, _ => ⟨[], rfl, List.eq_nil_of_length_eq_zero hl⟩
  | n + 1, [], hl, _ => by simp at hl
  | n + 1, c :: cs, hl, h => by
    obtain ⟨x, hx⟩ := h 0 (by omega)
    obtain ⟨l, h1, h2⟩ := bytes_of n cs (by simpa using hl) (fun i hi => by have := h (i + 1) (by omega); simpa using this)
    refine ⟨x :: l, by simp [h1], ?_⟩
    simp at hx
    rw [hx, h2]; rfl
set_option maxRecDepth 100000 in
/-- An argument of the type api.Addr. -/
theorem open_addr {H : Type} {enc : TypeId × Value → H} {W : World} {r : Reach} {b0 base : Nat} {spare : Nat → Bool} {held : Bool} {v : Value} {d : DataW H} {p : List MemPlace} (hv : Value.okWide Tryd.prog W r b0 35 v) (h : DataW.Trod enc Tryd.prog W base spare held 35 v d p) :
    ∃ a : Addr, a.ok ∧ v = .agg a.cells := by
  obtain ⟨cs, rfl, hs⟩ := WideShapes.okWide_struct Tryd.underlying35 hv
  obtain ⟨fuel, hf⟩ := h
  obtain ⟨hl, hk0⟩ := Fl.flat_fits (P := Tryd.prog) 4 35 _ fuel _ _ flatAd hf
  have hk : ∀ (i : Nat) (k : Fl.FK), (Fl.FK.int .i64 :: List.replicate 16 (.int .u8))[i]? = some k → ∃ v, cs.toList[i]? = some v ∧ k.ok v := hk0
  obtain ⟨u0, hu0, n, rfl, _⟩ := hk 0 (.int .i64) rfl
  have hl' : cs.toList.length = 17 := hl
  cases hcs : cs.toList with
  | nil => rw [hcs] at hl'; simp at hl'
  | cons c0 rest =>
    rw [hcs] at hl' hu0 hk
    obtain ⟨l, h1, h2⟩ := bytes_of 16 rest (by simpa using hl') (fun i hi => by
      obtain ⟨u, hu, m, rfl, hw⟩ := hk (i + 1) (.int .u8) (by rw [List.getElem?_cons_succ, List.getElem?_replicate, if_pos hi])
      obtain ⟨x, hx⟩ := byte_of hw
      exact ⟨x, by simpa [hx] using hu⟩)
    refine ⟨⟨n, l⟩, h1, ?_⟩
    congr 1
    apply Array.toList_inj.1
    rw [hcs]
    simp at hu0
    rw [hu0, h2]; rfl
theorem laidMet_tail {P : Program} {W : World} {x : String × DataW Unit} {rest : List (String × DataW Unit)} (h : laidMet P (x :: rest) W) : laidMet P rest W := by
  obtain ⟨ps, ⟨g, t, cs, fuel, p, q, _, _, _, _, hr, rfl⟩, hn, hc⟩ := h
  exact ⟨q, hr, (List.nodup_append.1 hn).2.1, fun b off hm => hc b off (List.mem_append_right _ hm)⟩
/-- What the shape of the variables gives. -/
theorem gl_of {W : World} {l : List (String × DataW Unit)} (h : laidMetH Tryd.prog l W) (hs : W.ShapedOpen Tryd.prog) : Gl W :=
  ⟨cell_of_shapedOpen_int (t := 3) (zero := #[.int .i64 0]) hs (of_decide_eq_true (by kernel_rfl)) (by kernel_rfl) rfl (by kernel_rfl) (by kernel_rfl) Tryd.underlying3⟩
def litC : Nat → DataW Unit → List Value
  | 0, _ => []
  | n + 1, .lit (.int k z) => [.int k z]
  | n + 1, .agg l => l.flatMap (litC n)
  | n + 1, _ => []
def putC (d : DataW Unit) : Obj → Obj
  | .cells _ t f => .cells (litC 4 d).toArray t f
  | o => o
/-- A world for the witness: each listed table holds what its text lays. -/
noncomputable def laidWorld (os : Os) : World :=
  { World.holding Tryd.prog os ⟨#[], #[], []⟩ with heap := (((((World.holding Tryd.prog os ⟨#[], #[], []⟩).heap.modify 1 (putC Rows.laid_internal_strconv_uint64pow10)).modify 2 (putC Rows.laid_math_bits_deBruijn32tab)).modify 3 (putC Rows.laid_math_bits_deBruijn64tab)).modify 4 (putC Rows.laid_unicode_utf8_first)).modify 5 (putC Rows.laid_unicode_utf8_acceptRanges) }
end Go.Proofs.YtpaplobjmmpliaaDoor.Ad
