/- What the rows of chapter 32 share: tapes, bytes and texts opened, the listed tables, a world for the witness. Conditions: none beyond those that each theorem states. -/
import Derived.Test.YtpciggnanlflkaaGreatDoorCards
import Derived.Test.YtpciggnanlflkaaGreatDoorTie
import Derived.Test.YtpciggnanlflkaaGreatDoorYd
import Derived.Deep.Slices
import Derived.WalkKit
import Derived.ProofKit
import Derived.OpenShut
import Derived.ShutString
import Derived.ChangeOld
import Derived.Below
import Derived.SizedLaws
import Derived.Carry
import Derived.Deep.DeepHandedRow
import Derived.Lib.LaidTab
import Derived.Lib.SmallJoins
import Derived.Shelf.Vars
namespace Go.Proofs.YtpciggnanlflkaaGreatDoor.Ad
open Go.ChangeShapes Go.WideShapes Go.ChangeAt Go.RowKit W
set_option linter.unusedVariables false
set_option linter.unusedSimpArgs false
theorem byte_of {n : Int} (h : (Lit.int .u8 n).wf = true) : ∃ x : UInt8, Value.int .u8 n = .int .u8 (x.toNat : Int) := by
  have hx : 0 ≤ n ∧ n ≤ 255 := by simpa [Lit.wf, IntKind.min, IntKind.max, IntKind.signed, IntKind.bits] using h
  refine ⟨UInt8.ofNat n.toNat, ?_⟩
  congr 1
  rw [UInt8.toNat_ofNat', Nat.mod_eq_of_lt (by omega)]
  omega
theorem i64_of {n : Int} (h : (Lit.int .i64 n).wf = true) : -9223372036854775808 ≤ n ∧ n ≤ 9223372036854775807 := by
  simpa [Lit.wf, IntKind.min, IntKind.max, IntKind.signed, IntKind.bits] using h
theorem bulk_all {H : Type} : ∀ l : List (DataW H), l.length ≤ Rows.uptoBulkAll l
  | [] => Nat.zero_le _
  | y :: l => by
    have ih := bulk_all l
    have hy : 1 ≤ Rows.uptoBulk y := by
      cases y with
      | lit v => cases v <;> simp [Rows.uptoBulk]
      | _ => simp [Rows.uptoBulk]
    simp only [Rows.uptoBulkAll, List.length_cons]
    omega
theorem bulk_mem {H : Type} {y : DataW H} : ∀ {l : List (DataW H)}, y ∈ l → Rows.uptoBulk y ≤ Rows.uptoBulkAll l
  | [], h => by cases h
  | z :: l, h => by
    rcases List.mem_cons.1 h with rfl | h
    · simp only [Rows.uptoBulkAll]; omega
    · have := bulk_mem h
      simp only [Rows.uptoBulkAll]; omega
theorem spot_none {w : World} {a : Go.Addr} {v : Value} (h : w.cell? a = some v) : ∃ g o, a = ⟨g, o, none⟩ := by
  have hsp : a.spot = none := by
    unfold World.cell? at h
    split at h
    · split at h
      · cases h
      · rename_i h2; simpa using h2
    · cases h
  obtain ⟨g, o, s⟩ := a
  simp only at hsp
  subst hsp
  exact ⟨g, o, rfl⟩
section
variable {H : Type} {enc : TypeId × Value → H} {W : World} {r : Reach} {b0 base : Nat} {spare : Nat → Bool} {held : Bool}
set_option maxRecDepth 100000 in
theorem trod_bytes {fuel : Nat} {cs : List Value} {x : DataW H × List MemPlace} (h : DataW.trod enc Tryz.prog W base spare held fuel 26 cs = some x) :
    ∃ p l c, cs = [.slice p (l : List UInt8).length c] ∧ BAt W p l ∧ SlOk p l.length c ∧ l.length ≤ Rows.uptoBulk x.1 ∧ (∀ a, p = some a → l ≠ [] → base ≤ a.block) := by
  rcases Deep.open_slice1 Tryz.underlying26 (by kernel_rfl) h with ⟨rfl, rfl⟩ | ⟨a, len, cap, m, n, V, D, Pl, rfl, hba, hl, hm, hmm, rfl, hel⟩
  · exact ⟨none, [], 0, rfl, .inl rfl, ⟨Nat.le_refl _, fun _ => rfl⟩, Nat.zero_le _, fun a h => by cases h⟩
  · have hlm : len ≤ m := by rw [hmm]; split <;> omega
    have key : ∀ i, ∃ b : UInt8, i < len → W.cell? (a.add i) = some (.int .u8 (b.toNat : Int)) := fun i => by
      by_cases hi : i < len
      · obtain ⟨h1, h2⟩ := hel i (by omega)
        obtain ⟨k, e, _, hw⟩ := DataW.trod_int Tryz.underlying5 h2
        obtain ⟨b, hb⟩ := byte_of hw
        refine ⟨b, fun _ => ?_⟩
        injection e with e1 _
        rw [h1, e1, hb]
      · exact ⟨0, fun h => absurd h hi⟩
    obtain ⟨f, hf⟩ : ∃ f : Nat → UInt8, ∀ i, i < len → W.cell? (a.add i) = some (.int .u8 ((f i).toNat : Int)) := ⟨fun i => (key i).choose, fun i => (key i).choose_spec⟩
    clear key
    have hlen : ((List.range len).map fun i => f i).length = len := by simp
    refine ⟨some a, (List.range len).map fun i => f i, cap, by rw [hlen], ?_, ⟨by rw [hlen]; exact hl, fun h => by cases h⟩, ?_, fun a' h _ => by injection h with h; subst h; exact hba⟩
    · by_cases h0 : len = 0
      · exact .inl (List.eq_nil_of_length_eq_zero (by rw [hlen]; exact h0))
      · obtain ⟨bv, hc0⟩ : ∃ bv, W.cell? (a.add 0) = some bv := ⟨_, hf 0 (by omega)⟩
        rw [show a.add 0 = a by unfold Go.Addr.add; simp] at hc0
        obtain ⟨g, o, rfl⟩ := spot_none hc0
        refine .inr ⟨g, o, rfl, World.block_lt_of_cell? W _ hc0, fun i hi => ?_⟩
        rw [S_size, hlen] at hi
        have := hf i hi
        rw [Addr.add_mid] at this
        rw [this]
        have e : (S ((List.range len).map fun i => f i))[i]'(by rw [S_size, hlen]; exact hi) = f i := by
          show ((List.range len).map fun i => f i).toArray[i]'(by simpa using hi) = _
          simp
        rw [e]
    · rw [hlen]
      have := bulk_all (((List.range len).map D))
      simp only [List.length_map, List.length_range] at this
      simp only [Rows.uptoBulk]
      omega
theorem take_one {l : List Value} {i : Nat} {v : Value} (h : l[i]? = some v) : (l.drop i).take 1 = [v] := by
  rw [List.take_one, List.head?_drop, h]; rfl
set_option maxRecDepth 100000 in
theorem trod_rec {fuel : Nat} {cs : List Value} {x : DataW H × List MemPlace} (h : DataW.trod enc Tryz.prog W base spare held fuel 48 cs = some x) :
    ∃ r pd cd, cs = recC r (.slice pd r.data.length cd) ∧ BAt W pd r.data ∧ SlOk pd r.data.length cd ∧ r.wf ∧ r.data.length ≤ Rows.uptoBulk x.1 := by
  obtain ⟨xs, n, _, rfl, hl, hxl, hf⟩ := DataW.trod_struct Tryz.underlying48 h
  have hl5 : cs.length = 5 := hl.trans (by kernel_rfl)
  have c1 : Tryz.prog.cellsOf 2 = 1 := by kernel_rfl
  have c2 : Tryz.prog.cellsOf 3 = 1 := by kernel_rfl
  have c3 : Tryz.prog.cellsOf 4 = 1 := by kernel_rfl
  have c4 : Tryz.prog.cellsOf 26 = 1 := by kernel_rfl
  match cs, hl5 with
  | [v0, v1, v2, v3, v4], _ =>
    match xs, hxl with
    | [x0, x1, x2, x3, x4], _ =>
      have h0 : DataW.trod enc Tryz.prog W base spare held n 2 (([v0, v1, v2, v3, v4].drop 0).take (Tryz.prog.cellsOf 2)) = some x0 := hf 0 _ rfl
      have h1 : DataW.trod enc Tryz.prog W base spare held n 3 (([v0, v1, v2, v3, v4].drop 1).take (Tryz.prog.cellsOf 3)) = some x1 := hf 1 _ rfl
      have h2 : DataW.trod enc Tryz.prog W base spare held n 4 (([v0, v1, v2, v3, v4].drop 2).take (Tryz.prog.cellsOf 4)) = some x2 := hf 2 _ rfl
      have h3 : DataW.trod enc Tryz.prog W base spare held n 3 (([v0, v1, v2, v3, v4].drop 3).take (Tryz.prog.cellsOf 3)) = some x3 := hf 3 _ rfl
      have h4 : DataW.trod enc Tryz.prog W base spare held n 26 (([v0, v1, v2, v3, v4].drop 4).take (Tryz.prog.cellsOf 26)) = some x4 := hf 4 _ rfl
      rw [c1] at h0
      rw [c2] at h1
      rw [c3] at h2
      rw [c2] at h3
      rw [c4] at h4
      obtain ⟨k0, e0, _, w0⟩ := DataW.trod_int Tryz.underlying2 h0
      obtain ⟨k1, e1, _, w1⟩ := DataW.trod_int Tryz.underlying3 h1
      obtain ⟨k2, e2, _⟩ := DataW.trod_bool Tryz.underlying4 h2
      obtain ⟨k3, e3, _, w3⟩ := DataW.trod_int Tryz.underlying3 h3
      obtain ⟨p, l, c, e4, hb, hs, hk, _⟩ := trod_bytes h4
      injection e0 with e0 _
      injection e1 with e1 _
      injection e2 with e2 _
      injection e3 with e3 _
      injection e4 with e4 _
      subst e0; subst e1; subst e2; subst e3; subst e4
      refine ⟨⟨k0, k1, k2, k3, l⟩, p, c, rfl, hb, hs, ⟨i64_of w0, i64_of w1, i64_of w3⟩, ?_⟩
      have := bulk_mem (y := x4.1) (l := [x0, x1, x2, x3, x4].map (·.1)) (by simp)
      simp only [Rows.uptoBulk]
      simp only at *
      omega
set_option maxRecDepth 100000 in
theorem trod_recs {fuel : Nat} {cs : List Value} {x : DataW H × List MemPlace} (h : DataW.trod enc Tryz.prog W base spare held fuel 22 cs = some x) :
    ∃ p l c, cs = [.slice p (l : List Rec).length c] ∧ RAt W p l ∧ SlOk p l.length c ∧ (∀ r ∈ l, r.wf) ∧ l.length ≤ Rows.uptoBulk x.1 ∧ ∀ r ∈ l, r.data.length ≤ Rows.uptoBulk x.1 := by
  rcases Deep.open_slice Tryz.underlying22 h with ⟨rfl, rfl⟩ | ⟨a, len, cap, m, n, D, Pl, rfl, hba, hl, hm, hmm, rfl, hel⟩
  · exact ⟨none, [], 0, rfl, .inl rfl, ⟨Nat.le_refl _, fun _ => rfl⟩, (fun r hr => by cases hr), Nat.zero_le _, fun r hr => by cases hr⟩
  · have hlm : len ≤ m := by rw [hmm]; split <;> omega
    have key : ∀ i, ∃ r : Rec, i < len → r.wf ∧ r.data.length ≤ Rows.uptoBulk (D i) ∧ ∃ pd cd, (∀ j u, (recC r (.slice pd r.data.length cd))[j]? = some u → W.cell? ((a.add (i * 5)).add j) = some u) ∧ BAt W pd r.data ∧ SlOk pd r.data.length cd := fun i => by
      by_cases hi : i < len
      · obtain ⟨cs', h1, h2⟩ := hel i (by omega)
        rw [show Tryz.prog.cellsOf 48 = 5 by kernel_rfl] at h1
        obtain ⟨_, h3, h4⟩ := World.cells?_some h1
        obtain ⟨r, pd, cd, e, k1, k2, k3, k4⟩ := trod_rec h2
        refine ⟨r, fun _ => ⟨k3, k4, pd, cd, fun j u hu => ?_, k1, k2⟩⟩
        rw [← e] at hu
        rw [h4 j (by have := (List.getElem?_eq_some_iff.1 hu).1; omega)]; exact hu
      · exact ⟨⟨0, 0, false, 0, []⟩, fun h => absurd h hi⟩
    obtain ⟨f, hf⟩ : ∃ f : Nat → Rec, ∀ i, i < len → (f i).wf ∧ (f i).data.length ≤ Rows.uptoBulk (D i) ∧ ∃ pd cd, (∀ j u, (recC (f i) (.slice pd (f i).data.length cd))[j]? = some u → W.cell? ((a.add (i * 5)).add j) = some u) ∧ BAt W pd (f i).data ∧ SlOk pd (f i).data.length cd := ⟨fun i => (key i).choose, fun i => (key i).choose_spec⟩
    clear key
    have hlen : ((List.range len).map fun i => f i).length = len := by simp
    have hmem : ∀ r ∈ (List.range len).map fun i => f i, ∃ i, i < len ∧ r = f i := fun r hr => by
      obtain ⟨i, hi, rfl⟩ := List.mem_map.1 hr
      exact ⟨i, List.mem_range.1 hi, rfl⟩
    refine ⟨some a, (List.range len).map fun i => f i, cap, by rw [hlen], ?_, ⟨by rw [hlen]; exact hl, fun h => by cases h⟩, fun r hr => ?_, ?_, fun r hr => ?_⟩
    · by_cases h0 : len = 0
      · exact .inl (List.eq_nil_of_length_eq_zero (by rw [hlen]; exact h0))
      · obtain ⟨_, _, pd0, cd0, hc0, _⟩ := hf 0 (by omega)
        obtain ⟨bv, hc0⟩ : ∃ bv, W.cell? ((a.add (0 * 5)).add 0) = some bv := ⟨_, hc0 0 _ rfl⟩
        rw [show (a.add (0 * 5)).add 0 = a by unfold Go.Addr.add; simp] at hc0
        obtain ⟨g, o, rfl⟩ := spot_none hc0
        refine .inr ⟨g, o, rfl, World.block_lt_of_cell? W _ hc0, fun i r hr => ?_⟩
        rw [List.getElem?_map] at hr
        have hi : i < len := by
          rcases Nat.lt_or_ge i len with h | h
          · exact h
          · rw [List.getElem?_eq_none (by simpa using h)] at hr; cases hr
        rw [List.getElem?_range hi] at hr
        injection hr with hr
        subst hr
        obtain ⟨_, _, pd, cd, h1, h2, h3⟩ := hf i hi
        refine ⟨pd, cd, fun j u hu => ?_, h2, h3⟩
        have := h1 j u hu
        rwa [Addr.add_mid, Addr.add_mid] at this
    · obtain ⟨i, hi, rfl⟩ := hmem r hr
      exact (hf i hi).1
    · rw [hlen]
      have := bulk_all (((List.range len).map D))
      simp only [List.length_map, List.length_range] at this
      simp only [Rows.uptoBulk]
      omega
    · obtain ⟨i, hi, rfl⟩ := hmem r hr
      have h1 := (hf i hi).2.1
      have h2 := bulk_mem (y := D i) (l := (List.range len).map D) (List.mem_map.2 ⟨i, List.mem_range.2 hi, rfl⟩)
      simp only [Rows.uptoBulk]
      omega
set_option maxRecDepth 100000 in
/-- A tape that came in. -/
theorem open_tape {v : Value} {d : DataW H} {ps : List MemPlace} (hv : Value.okWide Tryz.prog W r b0 24 v) (h : DataW.Trod enc Tryz.prog W base spare held 24 v d ps) :
    ∃ (t : Tp) (p : Option Go.Addr) (c : Nat), v = .agg #[.int .i64 t.snap, .slice p t.recs.length c] ∧ RAt W p t.recs ∧ SlOk p t.recs.length c ∧ t.wf ∧ t.recs.length ≤ Rows.uptoBulk d ∧ ∀ r ∈ t.recs, r.data.length ≤ Rows.uptoBulk d := by
  obtain ⟨v0, v1, y0, y1, n, rfl, rfl, rfl, h0, h1⟩ := Go.Joins.open_agg2 Tryz.underlying24 (by kernel_rfl) (by kernel_rfl) hv h
  obtain ⟨s, e0, _, w0⟩ := DataW.trod_int Tryz.underlying3 h0
  obtain ⟨p, l, c, e1, k1, k2, k3, k4, k5⟩ := trod_recs h1
  injection e0 with e0 _
  injection e1 with e1 _
  subst e0; subst e1
  have := bulk_mem (y := y1.1) (l := [y0.1, y1.1]) (by simp)
  refine ⟨⟨s, l⟩, p, c, rfl, k1, k2, ⟨i64_of w0, k3⟩, ?_, fun r hr => ?_⟩
  · simp only [Rows.uptoBulk]; omega
  · have := k5 r hr; simp only [Rows.uptoBulk]; omega
set_option maxRecDepth 100000 in
/-- Bytes that came in. -/
theorem open_bytes {v : Value} {d : DataW H} {ps : List MemPlace} (hv : Value.okWide Tryz.prog W r b0 26 v) (h : DataW.Trod enc Tryz.prog W base spare held 26 v d ps) :
    ∃ (p : Option Go.Addr) (l : List UInt8) (c : Nat), v = .slice p l.length c ∧ BAt W p l ∧ SlOk p l.length c ∧ l.length ≤ Rows.uptoBulk d := by
  obtain ⟨A0, n, cap, rfl⟩ := WideShapes.okWide_slice Tryz.underlying26 hv
  obtain ⟨fuel, hf⟩ := h
  obtain ⟨p, l, c, e, h1, h2, h3, _⟩ := trod_bytes hf
  simp [Value.cells] at e
  obtain ⟨rfl, rfl, rfl⟩ := e
  exact ⟨_, l, _, rfl, h1, h2, h3⟩
end
theorem laidMet_tail {P : Program} {W : World} {x : String × DataW Unit} {rest : List (String × DataW Unit)} (h : laidMet P (x :: rest) W) : laidMet P rest W := by
  obtain ⟨ps, ⟨g, t, cs, fuel, p, q, _, _, _, _, hr, rfl⟩, hn, hc⟩ := h
  exact ⟨q, hr, (List.nodup_append.1 hn).2.1, fun b off hm => hc b off (List.mem_append_right _ hm)⟩
theorem gPow : Tryz.prog.globalNamed "internal/strconv.uint64pow10" = some 0 := by kernel_rfl
theorem gPowT : (Tryz.prog.globals[0]?).map (·.type) = some 141 := by kernel_rfl
theorem cPow : Tryz.prog.cellsOf 141 = 20 := by kernel_rfl
theorem c64 : Tryz.prog.cellsOf 84 = 1 := by kernel_rfl
/-- What the row's list, and the shape of the variables, give. -/
theorem gl_of {W : World} (h : laidMetH Tryz.prog Rows.tapeLaysRow.laid W) (hs : W.ShapedOpen Tryz.prog) : Gl W := by
  have h1 : laidMet Tryz.prog Rows.tapeLaysRow.laid W := h
  have t3 : Lib.TabIs Tryz.prog W "internal/strconv.uint64pow10" .u64 Lib.pow10Tab := Lib.tabIs_of_head (rest := _) gPow gPowT Tryz.underlying141 Tryz.underlying84 c64 cPow (laidMet_tail (laidMet_tail h1))
  exact ⟨cell_of_shapedOpen_int (t := 3) (zero := #[.int .i64 0]) hs (of_decide_eq_true (by kernel_rfl)) (by kernel_rfl) rfl (by kernel_rfl) (by kernel_rfl) Tryz.underlying3, Lib.tabBelow_of_tabIs t3⟩
def litC : Nat → DataW Unit → List Value
  | 0, _ => []
  | n + 1, .lit (.int k z) => [.int k z]
  | n + 1, .agg l => l.flatMap (litC n)
  | n + 1, _ => []
def putC (d : DataW Unit) : Obj → Obj
  | .cells _ t f => .cells (litC 4 d).toArray t f
  | o => o
/-- A world for the witness: each listed table holds what its text lays. -/
noncomputable def laidWorld (os : Os) : World :=
  { World.holding Tryz.prog os ⟨#[], #[], []⟩ with heap := ((((((World.holding Tryz.prog os ⟨#[], #[], []⟩).heap.modify 0 (putC Rows.laid_internal_strconv_uint64pow10)).modify 2 (putC Rows.laid_math_bits_deBruijn32tab)).modify 3 (putC Rows.laid_math_bits_deBruijn64tab)).modify 4 (putC Rows.laid_unicode_utf8_first)).modify 5 (putC Rows.laid_unicode_utf8_acceptRanges)).modify 6 (putC Rows.laid_mosaic_opts_shapes) }
end Go.Proofs.YtpciggnanlflkaaGreatDoor.Ad
