/- What the six rows share: an argument opened as an address, the listed tables, a world for the witness. Conditions: none beyond those that each theorem states. -/
import Derived.Test.YtakdcndkpipfbaaDoorFl
import Derived.Test.YtakdcndkpipfbaaDoorCards
import Derived.Test.YtakdcndkpipfbaaDoorTie
import Derived.Test.YtakdcndkpipfbaaDoorBc
import Derived.WalkKit
import Derived.ProofKit
import Derived.OpenShut
import Derived.ShutString
import Derived.ChangeOld
import Derived.Below
import Derived.SizedLaws
import Derived.Carry
import Derived.Deep.DeepHandedRow
import Derived.Lib.LaidTab
import Derived.Shelf.Vars
namespace Go.Proofs.YtakdcndkpipfbaaDoor.Ad
open Go.ChangeShapes Go.WideShapes Go.ChangeAt Go.RowKit W
set_option linter.unusedVariables false
set_option linter.unusedSimpArgs false
theorem flatAd : Fl.flatK Tryd.prog 4 24 = some (.int .i64 :: List.replicate 16 (.int .u8)) := by kernel_rfl
theorem byte_of {n : Int} (h : (Lit.int .u8 n).wf = true) : ∃ x : UInt8, Value.int .u8 n = by8 x := by
  have hx : 0 ≤ n ∧ n ≤ 255 := by simpa [Lit.wf, IntKind.min, IntKind.max, IntKind.signed, IntKind.bits] using h
  refine ⟨UInt8.ofNat n.toNat, ?_⟩
  unfold by8
  congr 1
  rw [UInt8.toNat_ofNat', Nat.mod_eq_of_lt (by omega)]
  omega
theorem bytes_of : ∀ (n : Nat) (cs : List Value), cs.length = n → (∀ i, i < n → ∃ x : UInt8, cs[i]? = some (by8 x)) → ∃ l : List UInt8, l.length = n ∧ cs = l.map by8
  | 0, cs, hl, _ => ⟨[], rfl, List.eq_nil_of_length_eq_zero hl⟩
  | n + 1, [], hl, _ => by simp at hl
  | n + 1, c :: cs, hl, h => by
    obtain ⟨x, hx⟩ := h 0 (by omega)
    obtain ⟨l, h1, h2⟩ := bytes_of n cs (by simpa using hl) (fun i hi => by have := h (i + 1) (by omega); simpa using this)
    refine ⟨x :: l, by simp [h1], ?_⟩
    simp at hx
    rw [hx, h2]; rfl
set_option maxRecDepth 100000 in
/-- An argument of the type api.Addr. -/
theorem open_addr {H : Type} {enc : TypeId × Value → H} {W : World} {r : Reach} {b0 base : Nat} {spare : Nat → Bool} {held : Bool} {v : Value} {d : DataW H} {p : List MemPlace} (hv : Value.okWide Tryd.prog W r b0 24 v) (h : DataW.Trod enc Tryd.prog W base spare held 24 v d p) :
    ∃ a : Addr, a.ok ∧ v = .agg a.cells := by
  obtain ⟨cs, rfl, hs⟩ := WideShapes.okWide_struct Tryd.underlying24 hv
  obtain ⟨fuel, hf⟩ := h
  obtain ⟨hl, hk0⟩ := Fl.flat_fits (P := Tryd.prog) 4 24 _ fuel _ _ flatAd hf
  have hk : ∀ (i : Nat) (k : Fl.FK), (Fl.FK.int .i64 :: List.replicate 16 (.int .u8))[i]? = some k → ∃ v, cs.toList[i]? = some v ∧ k.ok v := hk0
  obtain ⟨u0, hu0, n, rfl, _⟩ := hk 0 (.int .i64) rfl
  have hl' : cs.toList.length = 17 := hl
  cases hcs : cs.toList with
  | nil => rw [hcs] at hl'; simp at hl'
  | cons c0 rest =>
    rw [hcs] at hl' hu0 hk
    obtain ⟨l, h1, h2⟩ := bytes_of 16 rest (by simpa using hl') (fun i hi => by
      obtain ⟨u, hu, m, rfl, hw⟩ := hk (i + 1) (.int .u8) (by rw [List.getElem?_cons_succ, List.getElem?_replicate, if_pos hi])
      obtain ⟨x, hx⟩ := byte_of hw
      exact ⟨x, by simpa [hx] using hu⟩)
    refine ⟨⟨n, l⟩, h1, ?_⟩
    congr 1
    apply Array.toList_inj.1
    rw [hcs]
    simp at hu0
    rw [hu0, h2]; rfl
theorem laidMet_tail {P : Program} {W : World} {x : String × DataW Unit} {rest : List (String × DataW Unit)} (h : laidMet P (x :: rest) W) : laidMet P rest W := by
  obtain ⟨ps, ⟨g, t, cs, fuel, p, q, _, _, _, _, hr, rfl⟩, hn, hc⟩ := h
  exact ⟨q, hr, (List.nodup_append.1 hn).2.1, fun b off hm => hc b off (List.mem_append_right _ hm)⟩
theorem gDe : Tryd.prog.globalNamed "math/bits.deBruijn64tab" = some 3 := by kernel_rfl
theorem gDeT : (Tryd.prog.globals[3]?).map (·.type) = some 109 := by kernel_rfl
theorem gPow : Tryd.prog.globalNamed "internal/strconv.uint64pow10" = some 1 := by kernel_rfl
theorem gPowT : (Tryd.prog.globals[1]?).map (·.type) = some 95 := by kernel_rfl
theorem cDe : Tryd.prog.cellsOf 109 = 64 := by kernel_rfl
theorem cPow : Tryd.prog.cellsOf 95 = 20 := by kernel_rfl
theorem c5 : Tryd.prog.cellsOf 5 = 1 := by kernel_rfl
theorem c64 : Tryd.prog.cellsOf 47 = 1 := by kernel_rfl
def de64 : List Int := [0, 1, 56, 2, 57, 49, 28, 3, 61, 58, 42, 50, 38, 29, 17, 4, 62, 47, 59, 36, 45, 43, 51, 22, 53, 39, 33, 30, 24, 18, 12, 5, 63, 55, 48, 27, 60, 41, 37, 16, 46, 35, 44, 21, 52, 32, 23, 11, 54, 26, 40, 15, 34, 20, 31, 10, 25, 14, 19, 9, 13, 8, 7, 6]
/-- What the row's list, and the shape of the variables, give. -/
theorem gl_of {W : World} (h : laidMetH Tryd.prog Rows.addrAsksRow.laid W) (hs : W.ShapedOpen Tryd.prog) : Gl W := by
  have h1 : laidMet Tryd.prog Rows.addrAsksRow.laid W := h
  have t2 : Lib.TabIs Tryd.prog W "math/bits.deBruijn64tab" .u8 de64 := Lib.tabIs_of_head (rest := _) gDe gDeT Tryd.underlying109 Tryd.underlying5 c5 cDe (laidMet_tail h1)
  have t3 : Lib.TabIs Tryd.prog W "internal/strconv.uint64pow10" .u64 Lib.pow10Tab := Lib.tabIs_of_head (rest := _) gPow gPowT Tryd.underlying95 Tryd.underlying47 c64 cPow (laidMet_tail (laidMet_tail h1))
  exact ⟨cell_of_shapedOpen_int (t := 3) (zero := #[.int .i64 0]) hs (of_decide_eq_true (by kernel_rfl)) (by kernel_rfl) rfl (by kernel_rfl) (by kernel_rfl) Tryd.underlying3, t2.cell gDe 15 (by decide), Lib.tabBelow_of_tabIs t3⟩
def litC : Nat → DataW Unit → List Value
  | 0, _ => []
  | n + 1, .lit (.int k z) => [.int k z]
  | n + 1, .agg l => l.flatMap (litC n)
  | n + 1, _ => []
def putC (d : DataW Unit) : Obj → Obj
  | .cells _ t f => .cells (litC 4 d).toArray t f
  | o => o
/-- A world for the witness: each listed table holds what its text lays. -/
noncomputable def laidWorld (os : Os) : World :=
  { World.holding Tryd.prog os ⟨#[], #[], []⟩ with heap := (((((World.holding Tryd.prog os ⟨#[], #[], []⟩).heap.modify 1 (putC Rows.laid_internal_strconv_uint64pow10)).modify 2 (putC Rows.laid_math_bits_deBruijn32tab)).modify 3 (putC Rows.laid_math_bits_deBruijn64tab)).modify 4 (putC Rows.laid_unicode_utf8_first)).modify 5 (putC Rows.laid_unicode_utf8_acceptRanges) }
end Go.Proofs.YtakdcndkpipfbaaDoor.Ad
