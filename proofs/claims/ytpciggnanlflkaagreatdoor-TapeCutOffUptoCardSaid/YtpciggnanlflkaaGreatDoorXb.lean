/- strings.Builder.WriteByte; the library's tables; Itoa, FormatInt, Cut, CutPrefix. Conditions: the text stays below 2^47 bytes; the library's variables hold what its text lays. -/
import Derived.Test.YtpciggnanlflkaaGreatDoorXa
import Derived.Test.YtpciggnanlflkaaGreatDoorBg
import Derived.Lib.ItoaNum
import Derived.Lib.AppendIntMem
namespace Go.Proofs.YtpciggnanlflkaaGreatDoor.Ad
set_option linter.unusedVariables false
set_option linter.unusedSimpArgs false
open Go.RowKit Go.Maps W
set_option maxRecDepth 100000 in
set_option maxHeartbeats 2000000 in
theorem byte_calls (R b : Nat) (l : List UInt8) (x : UInt8) (xi : Int) (hxi : xi = (x.toNat : Int)) (w : World) (h : Bd R b l w) (hlen : l.length + 1 ≤ 140737488355328) (hBw : R ≤ w.heap.size) :
    Calls Tryz.prog 39 #[.pointer (some ⟨b, 0, none⟩), .int .u8 xi] w fun e w' => e = .returned .nilIface ∧ Bd R b (l ++ [x]) w' ∧ But b R w w' ∧ KeepT b w w' := by
  subst hxi
  obtain ⟨i0, hi, hz0, hz1, hz2⟩ := info_parts (show (Tryz.prog.info? 5).map (fun i => (i.zero, i.size, i.bytes)) = some (some (.int .u8 0), 1, 1) by kernel_rfl)
  have HC := Lib.hid (check_calls R b l w h)
  have hbR := h.1
  obtain ⟨xn, hxn⟩ : ∃ n, x.toNat = n := ⟨_, rfl⟩
  have HXN := Lib.hid hxn
  obtain ⟨ln, hln⟩ : ∃ n, l.length = n := ⟨_, rfl⟩
  have HLN := Lib.hid hln
  rw [hln] at hlen
  rw [hxn]
  clear h hxn hln
  go_enter Tryz.func39, Tryz.ntmps39
  go_upto_region 2 with (go_at_call 65; refine HC.out.mono ?_; rintro e w1 ⟨rfl, h1, hb1, hk1⟩)
  obtain ⟨v, hbk, hown⟩ := h1
  rw [HLN.out] at hown
  have c0 : w1.cell? ⟨b, 0, none⟩ = some (.pointer (some ⟨b, 0, none⟩)) := by rw [Lib.cell_of_heap hbk]; rfl
  have c1 : w1.cell? ⟨b, 1, none⟩ = some v := by rw [Lib.cell_of_heap hbk]; rfl
  have hlt : b < w1.heap.size := (Array.getElem?_eq_some_iff.1 hbk).1
  have hne := Lib.ownBlock_ne hown hbk (by decide)
  have hRW : R ≤ w1.heap.size := by have := hb1.below.size; omega
  have HOW := Lib.hid (World.ownsRow.alloc hown (.cells #[.int .u8 (xn : Int)] 5))
  have hbA : (w1.alloc (.cells #[.int .u8 (xn : Int)] 5)).heap[b]? = some (.cells #[.pointer (some ⟨b, 0, none⟩), v] 65 (0, 0)) := (Below.heap_alloc w1 _ b hlt).trans hbk
  have HBA := Lib.hid hbA
  have HNE := Lib.hid hne
  have HRW := Lib.hid hRW
  clear hbA hne hRW hown
  go_wp2_with (at_builtin; refine wpList_append_two rfl _ _ 26 rfl 5 i0 _ 1 1 Tryz.underlying26 hi hz0 hz1 hz2 (by rfl) (by omega) R v ln _ rfl HOW.out ⟨w1.heap.size, 0, none⟩ 1 1 [.int .u8 (xn : Int)] rfl rfl (news_b _ _) (fun u hu => by rw [List.mem_singleton.1 hu]; rfl) (by omega) (by unfold maxLen; omega) (by omega) (by have := HRW.out; simp; omega) ?_; intro g cap w2 hown' hgr hlt'; have hf := fr_row hgr; have hb2 : w2.heap[b]? = some (.cells #[.pointer (some ⟨b, 0, none⟩), v] 65 (0, 0)) := (hf.block b (by have := (Array.getElem?_eq_some_iff.1 HBA.out).1; exact this) (fun e => by first | exact HNE.out e | exact HNE.out e.symm)).trans HBA.out; have d1 : w2.cell? ⟨b, 1, none⟩ = some v := (by rw [Lib.cell_of_heap hb2]; rfl); have f1 : w2.frozen? ⟨b, 1, none⟩ = false := Lib.frozen_of_heap hb2 1)
  go_ret
  have hBA : Below R w1 (w1.alloc (.cells #[.int .u8 (xn : Int)] 5)) := (Below.refl R w1).alloc HRW.out _
  have hB12 : Below R w1 w2 := hBA.trans (hf.below (fun k hk e => by have := own_ge HOW.out k e; omega) (by have := HRW.out; simp; omega))
  refine ⟨rfl, ⟨hbR, _, _, .inr rfl, (heap_setCell_same w2 b 1 _ _ _ hb2).trans (by simp; rfl), ?_⟩, (hb1.trans (But.of hB12 (by omega))).trans bput_cell, ((hk1.trans (KeepT.of ((Below.refl _ _).alloc (Nat.le_refl _) _))).trans (KeepT.fr HOW.out hf)).trans (KeepT.set_ b 1 _ w2)⟩
  have h9 := own_put (j := 1) (x := .slice (some ⟨g, 0, none⟩) (ln + 1) cap) hown' hbR
  rw [byteCells_app, List.length_append, HLN.out]
  have e : Lib.byteCells [x] = [.int .u8 (xn : Int)] := by rw [← HXN.out]; rfl
  rw [e]
  exact h9
/-- What the library's own variables hold: MaxLen a number, the powers of ten what the text lays. -/
structure Gl (w : World) : Prop where
  max : ∃ m, w.cell? ⟨1, 0, none⟩ = some (.int .i64 m)
  pow : Lib.TabBelow Tryz.prog w.heap.size w "internal/strconv.uint64pow10" .u64 Lib.pow10Tab
theorem Gl.later {w w' : World} (h : Gl w) (hb : Below w.heap.size w w') : Gl w' := by
  obtain ⟨⟨m, hm⟩, hp⟩ := h
  exact ⟨⟨m, (hb.cell (World.block_lt_of_cell? w _ hm)).trans hm⟩, fun w2 h2 => hp w2 (hb.trans (h2.mono hb.size))⟩
theorem grow_below (w : World) (n : Nat) (os : Array Obj) : Below w.heap.size w (Go.Sort.grow (w.drewN n) os) := by
  refine ⟨rfl, rfl, rfl, ?_, fun k hk => ?_⟩
  · show w.heap.size ≤ (w.heap ++ os).size; simp
  · show (w.heap ++ os)[k]? = _; rw [Array.getElem?_append_left hk]
theorem itoa_calls (n : Nat) (ni : Int) (hni : ni = n) (hn : n ≤ 1099511627776) (w : World) (hg : Gl w) : Calls Tryz.prog 37 #[.int .i64 ni] w fun e w' => e = .returned (.string (S (textB 10 n))) ∧ Below w.heap.size w w' := by
  subst hni
  refine (Tryz.strconv_Itoa (n : Int) (by omega) (by omega) w hg.pow.here).mono fun e w' h => ?_
  obtain ⟨rfl, k, os, rfl⟩ := h
  exact ⟨by rw [Lib.itoa_nonneg, ← textB_ten]; rfl, grow_below _ _ _⟩
theorem format_calls (n : Nat) (ni : Int) (hni : ni = n) (hn : n ≤ 1099511627776) (w : World) (hg : Gl w) : Calls Tryz.prog 38 #[.int .i64 ni, .int .i64 10] w fun e w' => e = .returned (.string (S (textB 10 n))) ∧ Below w.heap.size w w' := by
  subst hni
  refine (Tryz.strconv_FormatInt_10 (n : Int) (by omega) (by omega) w hg.pow.here).mono fun e w' h => ?_
  obtain ⟨rfl, k, os, rfl⟩ := h
  exact ⟨by rw [Lib.itoa_nonneg, ← textB_ten]; rfl, grow_below _ _ _⟩
theorem cutS_calls (l : List UInt8) (c : UInt8) (hl : l.length < 4294967281) (w : World) (hg : Gl w) : Calls Tryz.prog 50 #[.string (S l), .string ⟨#[c]⟩] w fun e w' =>
    e = .returned (.tuple #[.string (S (Lib.cut l [c]).1), .string (S (Lib.cut l [c]).2.1), .bool (Lib.cut l [c]).2.2]) ∧ Below w.heap.size w w' := by
  obtain ⟨m, hm⟩ := hg.max
  have h := Tryz.strings_Cut (S l) ⟨#[c]⟩ m w (by rw [S_size]; exact hl) hm
  rw [S_list] at h
  refine h.mono fun e w' ⟨he, n, hn⟩ => ⟨he, ?_⟩
  rw [hn]; exact Below.drewN' (Below.refl _ _) n
theorem prefix_calls (l p : List UInt8) (w : World) : Calls Tryz.prog 51 #[.string (S l), .string (S p)] w fun e w' => e = .returned (.tuple #[.string (S (Lib.trimPrefix l p)), .bool (Lib.hasPrefix l p)]) ∧ Below w.heap.size w w' := by
  have h := Tryz.strings_CutPrefix (S l) (S p) w
  rw [S_list, S_list] at h
  exact h.mono fun e w' ⟨he, hw⟩ => ⟨he, by rw [hw]; exact Below.refl _ _⟩
theorem index_calls (l : List UInt8) (c : UInt8) (ci : Int) (hc : ci = (c.toNat : Int)) (w : World) : Calls Tryz.prog 85 #[.string (S l), .int .u8 ci] w fun e w' => e = .returned (.int .i64 (Lib.indexByte l c)) ∧ Below w.heap.size w w' := by
  subst hc
  have h := Tryz.strings_IndexByte (S l) (c.toNat : Int) w
  rw [S_list] at h
  refine h.mono fun e w' ⟨he, hw⟩ => ⟨?_, by rw [hw]; exact Below.refl _ _⟩
  rw [he]
  have : ((c.toNat : Int).toNat).toUInt8 = c := by simp
  rw [this]
end Go.Proofs.YtpciggnanlflkaaGreatDoor.Ad
