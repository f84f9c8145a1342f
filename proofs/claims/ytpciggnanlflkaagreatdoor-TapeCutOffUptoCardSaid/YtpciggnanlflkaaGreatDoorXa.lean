/- A strings.Builder that the call itself has made: its check and its writer. Conditions: the text stays below 2^47 bytes. -/
import Derived.Test.YtpciggnanlflkaaGreatDoorWt
import Derived.Test.YtpciggnanlflkaaGreatDoorSh
import Derived.Laws.Rows
import Derived.Shelf.Strings.Builder1
namespace Go.Proofs.YtpciggnanlflkaaGreatDoor.Ad
set_option linter.unusedVariables false
set_option linter.unusedSimpArgs false
open Go.RowKit W
theorem bsize : (Tryz.prog.info? 65).map (·.size) = some 2 := by kernel_rfl
theorem blies : liesAt Tryz.prog Tryz.prog.depth 65 (2 / Tryz.prog.cellsOf 65) 0 65 1 = true := by kernel_rfl
set_option maxRecDepth 100000 in
theorem check_used (b : Nat) (w : World) (h0 : w.cell? ⟨b, 0, none⟩ = some (.pointer (some ⟨b, 0, none⟩))) :
    Calls Tryz.prog 65 #[.pointer (some ⟨b, 0, none⟩)] w fun e w' => e = .returned (.tuple #[]) ∧ w' = w := by
  obtain ⟨j, hj, _⟩ := Option.map_eq_some_iff.1 bsize
  go_enter Tryz.func65, Tryz.ntmps65
  go_wp2
  rw [Lib.run_neq_ptr_same w _ Tryz.underlying63 hj]
  go_wp2
  go_end0
  exact ⟨rfl, rfl⟩
set_option maxRecDepth 100000 in
set_option maxHeartbeats 1000000 in
theorem check_fresh (b : Nat) (w : World) (h0 : w.cell? ⟨b, 0, none⟩ = some (.pointer none)) (hsh : w.shape? b = some (65, 2)) (hfz : w.frozen? ⟨b, 0, none⟩ = false) :
    Calls Tryz.prog 65 #[.pointer (some ⟨b, 0, none⟩)] w fun e w' => e = .returned (.tuple #[]) ∧ w' = w.setCell ⟨b, 0, none⟩ (.pointer (some ⟨b, 0, none⟩)) := by
  obtain ⟨j, hj, hjs⟩ := Option.map_eq_some_iff.1 bsize
  go_enter Tryz.func65, Tryz.ntmps65
  go_wp2
  rw [Lib.run_to_unsafe w ⟨b, 0, none⟩ Tryz.underlying63 Tryz.underlying124 hj (by rw [hjs]; decide) hsh (Nat.zero_lt_succ 1)]
  simp only [Result.andThen]
  rw [Oper.upon_value]
  go_wp2
  rw [run_callFunc_extern Tryz.func77 (by kernel_rfl) (by kernel_rfl) (by kernel_rfl) (e := Extern.AbiNoEscape.same) (by kernel_rfl)]
  rw [Lib.run_noEscape]
  simp only [Result.andThen]
  rw [Oper.upon_value]
  go_wp2
  rw [Lib.run_from_unsafe w ⟨b, 0, none⟩ Tryz.underlying124 Tryz.underlying63 hj hsh blies]
  simp only [Result.andThen]
  rw [Oper.upon_value]
  go_wp2
  go_end0
  exact ⟨rfl, rfl⟩
/-- A builder in block b that holds the bytes l; its row lies at or behind block R. -/
def Bd (R b : Nat) (l : List UInt8) (w : World) : Prop :=
  b < R ∧ ∃ p v, (p = .pointer none ∨ p = .pointer (some ⟨b, 0, none⟩)) ∧ w.heap[b]? = some (.cells #[p, v] 65 (0, 0)) ∧ w.ownsRow R 5 1 v l.length (Lib.byteCells l)
/-- What stands in blocks below R stands as it stood, but for block b. -/
structure But (b R : Nat) (w w' : World) : Prop where
  below : Below b w w'
  rest : ∀ k, b < k → k < R → w'.heap[k]? = w.heap[k]?
theorem But.trans {b R : Nat} {w w' w'' : World} (h : But b R w w') (k : But b R w' w'') : But b R w w'' := ⟨h.below.trans k.below, fun j h1 h2 => (k.rest j h1 h2).trans (h.rest j h1 h2)⟩
theorem But.of {b R : Nat} {w w' : World} (h : Below R w w') (hb : b ≤ R) : But b R w w' := ⟨h.mono hb, fun k _ h2 => h.block k h2⟩
theorem But.cell {b R : Nat} {w w' : World} (h : But b R w w') {a : Go.Addr} (h1 : a.block < R) (h2 : a.block ≠ b) : w'.cell? a = w.cell? a := by
  refine World.cell?_of_block ?_
  rcases Nat.lt_or_gt_of_ne h2 with h3 | h3
  · exact h.below.block _ h3
  · exact h.rest _ h3 h1
theorem Bd.new (w : World) (R : Nat) (h : w.heap.size < R) : Bd R w.heap.size [] (w.alloc (.cells #[.pointer none, .slice none 0 0] 65)) :=
  ⟨h, _, _, .inl rfl, heap_alloc_new w _, World.ownsRow_nil _ _ _ _⟩
theorem Bd.raise {R R' b : Nat} {w : World} (h : Bd R b [] w) (hR : R ≤ R') (hnil : ∀ v, w.cell? ⟨b, 1, none⟩ = some v → v = .slice none 0 0) : Bd R' b [] w := by
  obtain ⟨h1, p, v, h2, h3, h4⟩ := h
  obtain rfl := hnil v (by rw [Lib.cell_of_heap h3]; rfl)
  exact ⟨by omega, p, _, h2, h3, World.ownsRow_nil _ _ _ _⟩
theorem Bd.later {R b : Nat} {l : List UInt8} {w w' : World} (h : Bd R b l w) (hb : Below w.heap.size w w') : Bd R b l w' := by
  obtain ⟨h1, p, v, h2, h3, h4⟩ := h
  exact ⟨h1, p, v, h2, (hb.block b (Array.getElem?_eq_some_iff.1 h3).1).trans h3, own_later h4 hb⟩
theorem Bd.lt {R b : Nat} {l : List UInt8} {w : World} (h : Bd R b l w) : b < w.heap.size := by
  obtain ⟨h1, p, v, h2, h3, h4⟩ := h
  exact (Array.getElem?_eq_some_iff.1 h3).1
theorem Bd.is {R b : Nat} {l : List UInt8} {w : World} (h : Bd R b l w) : Lib.IsBuilder 65 5 b b (Lib.byteCells l) w := by
  obtain ⟨h1, p, v, h2, h3, h4⟩ := h
  have h5 : w.ownsRow b 5 1 v (Lib.byteCells l).length (Lib.byteCells l) := by rw [Lib.byteCells_length]; exact own_base h4 (by omega)
  have hne := Lib.ownBlock_ne h4 h3 (by decide)
  rcases h2 with rfl | rfl
  · exact .inl ⟨Nat.le_refl _, v, h3, h5, hne⟩
  · exact .inr ⟨Nat.le_refl _, v, h3, h5, hne⟩
theorem bput_cell {w : World} {R b j : Nat} {x : Value} : But b R w (w.setCell ⟨b, j, none⟩ x) := ⟨(Below.refl b w).setCell (p := ⟨b, j, none⟩) (Nat.le_refl _) _, fun k h1 _ => heap_setCell_other w _ k x (by show k ≠ b; omega)⟩
theorem own_put {w : World} {R b j : Nat} {x v : Value} {n : Nat} {xs : List Value} (h : w.ownsRow R 5 1 v n xs) (hb : b < R) : (w.setCell ⟨b, j, none⟩ x).ownsRow R 5 1 v n xs := ownsRow_setCell_below h (by exact hb) x
/-- What is of another type than bytes stands as it stood, but for block b. -/
def KeepT (b : Nat) (w w' : World) : Prop := ∀ (G : Nat) (t : TypeId) (cs : Array Value), t ≠ 5 → G ≠ b → Blk w G t cs → Blk w' G t cs
theorem KeepT.trans {b : Nat} {w w' w'' : World} (h : KeepT b w w') (k : KeepT b w' w'') : KeepT b w w'' := fun G t cs h1 h2 h3 => k G t cs h1 h2 (h G t cs h1 h2 h3)
theorem KeepT.of {b : Nat} {w w' : World} (h : Below w.heap.size w w') : KeepT b w w' := fun G t cs _ _ h3 => h3.later h h3.lt
theorem KeepT.set_ (b j : Nat) (u : Value) (w : World) : KeepT b w (w.setCell ⟨b, j, none⟩ u) := fun G t cs _ h2 h3 => h3.far (by exact h2) u
theorem KeepT.fr {b : Nat} {w w' : World} {v : Value} {R n : Nat} {xs : List Value} (ho : w.ownsRow R 5 1 v n xs) (hf : Fr (fun k => v.ownBlock = some k) w w') : KeepT b w w' := fun G t cs h1 _ h3 => hf.blk h3 fun e => by
  rcases ho.2 with ⟨rfl, _⟩ | ⟨g, cap, cur, rfl, _, hg, _⟩
  · cases e
  · have e1 : g = G := by injection e
    subst e1
    unfold Blk at h3
    rw [h3] at hg
    injection hg with hg
    injection hg with _ h4 _
    exact h1 h4
theorem check_calls (R b : Nat) (l : List UInt8) (w : World) (h : Bd R b l w) :
    Calls Tryz.prog 65 #[.pointer (some ⟨b, 0, none⟩)] w fun e w' => e = .returned (.tuple #[]) ∧
      (∃ v, w'.heap[b]? = some (.cells #[.pointer (some ⟨b, 0, none⟩), v] 65 (0, 0)) ∧ w'.ownsRow R 5 1 v l.length (Lib.byteCells l)) ∧ But b R w w' ∧ KeepT b w w' := by
  obtain ⟨h1, p, v, h2, h3, h4⟩ := h
  have c0 : w.cell? ⟨b, 0, none⟩ = some p := by rw [Lib.cell_of_heap h3]; rfl
  rcases h2 with rfl | rfl
  · refine (check_fresh b w c0 (by simp [World.shape?, h3]) (Lib.frozen_of_heap h3 0)).mono ?_
    rintro e w' ⟨rfl, rfl⟩
    exact ⟨rfl, ⟨v, (heap_setCell_same w b 0 _ _ _ h3).trans (by simp), own_put h4 h1⟩, bput_cell, KeepT.set_ b 0 _ w⟩
  · refine (check_used b w c0).mono ?_
    rintro e w' ⟨rfl, rfl⟩
    exact ⟨rfl, ⟨v, h3, h4⟩, But.of (Below.refl _ _) (by omega), KeepT.of (Below.refl _ _)⟩
theorem byteCells_app (l m : List UInt8) : Lib.byteCells (l ++ m) = Lib.byteCells l ++ Lib.byteCells m := by simp [Lib.byteCells]
theorem strCells_eq (s : ByteArray) : Lib.strCells s = Lib.byteCells s.data.toList := by
  first | rfl | simp [Lib.strCells, Lib.byteCells]
set_option maxRecDepth 100000 in
set_option maxHeartbeats 2000000 in
theorem write_calls (R b : Nat) (l : List UInt8) (s : ByteArray) (w : World) (h : Bd R b l w) (hlen : l.length + s.size ≤ 140737488355328) (hBw : R ≤ w.heap.size) :
    Calls Tryz.prog 36 #[.pointer (some ⟨b, 0, none⟩), .string s] w fun e w' => e = .returned (.tuple #[.int .i64 s.size, .nilIface]) ∧ Bd R b (l ++ s.data.toList) w' ∧ But b R w w' ∧ KeepT b w w' := by
  obtain ⟨i0, hi, hz0, hz1, hz2⟩ := info_parts (show (Tryz.prog.info? 5).map (fun i => (i.zero, i.size, i.bytes)) = some (some (.int .u8 0), 1, 1) by kernel_rfl)
  have HC := Lib.hid (check_calls R b l w h)
  have hbR := h.1
  clear h
  go_enter Tryz.func36, Tryz.ntmps36
  go_upto_region 2 with (go_at_call 65; refine HC.out.mono ?_; rintro e w1 ⟨rfl, h1, hb1, hk1⟩)
  obtain ⟨v, hbk, hown⟩ := h1
  have c0 : w1.cell? ⟨b, 0, none⟩ = some (.pointer (some ⟨b, 0, none⟩)) := by rw [Lib.cell_of_heap hbk]; rfl
  have c1 : w1.cell? ⟨b, 1, none⟩ = some v := by rw [Lib.cell_of_heap hbk]; rfl
  go_wp2_with (at_builtin; refine Lib.wpList_append_own_string _ rfl _ _ 26 9 rfl R 5 i0 Tryz.underlying26 Tryz.underlying9 hi hz0 hz1 hz2 _ _ _ rfl hown s rfl ?c3 ?c4 ?c5 ?_)
  case c3 => unfold maxLen; omega
  case c4 => omega
  case c5 => have := hb1.below.size; omega
  intro v' w2 hown' hgrow _
  have hlt : b < w1.heap.size := (Array.getElem?_eq_some_iff.1 hbk).1
  have hne := Lib.ownBlock_ne hown hbk (by decide)
  have hb2 : w2.heap[b]? = some (.cells #[.pointer (some ⟨b, 0, none⟩), v] 65 (0, 0)) := by
    rw [hgrow.block b hlt (fun e => hne e.symm)]
    exact hbk
  have d0 : w2.cell? ⟨b, 0, none⟩ = some (.pointer (some ⟨b, 0, none⟩)) := by rw [Lib.cell_of_heap hb2]; rfl
  have d1 : w2.cell? ⟨b, 1, none⟩ = some v := by rw [Lib.cell_of_heap hb2]; rfl
  have f1 : w2.frozen? ⟨b, 1, none⟩ = false := Lib.frozen_of_heap hb2 1
  obtain ⟨ao, n', cap, rfl⟩ : ∃ ao n' cap, v' = .slice ao n' cap := by
    rcases hown'.2 with ⟨hv, _⟩ | ⟨g, cap, cur, hv, _⟩
    · exact ⟨_, _, _, hv⟩
    · exact ⟨_, _, _, hv⟩
  have hB12 : Below R w1 w2 := (Below.refl R w1).grown hgrow (by have := hb1.below.size; omega) (fun k hk => (hown.lt k hk).1)
  go_wp2
  go_ret2
  refine ⟨rfl, ⟨hbR, _, _, .inr rfl, (heap_setCell_same w2 b 1 _ _ _ hb2).trans (by simp; rfl), ?_⟩, (hb1.trans (But.of hB12 (by omega))).trans bput_cell, (hk1.trans (KeepT.fr hown ⟨hgrow.os, hgrow.tape, hgrow.output, hgrow.size, fun k hk e => hgrow.block k hk (fun e2 => e e2.symm)⟩)).trans (KeepT.set_ b 1 _ w2)⟩
  have h9 := own_put (j := 1) (x := .slice ao n' cap) hown' hbR
  rw [byteCells_app, ← strCells_eq, List.length_append]
  exact h9
end Go.Proofs.YtpciggnanlflkaaGreatDoor.Ad
