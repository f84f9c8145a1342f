/- What a path's methods do to the block of cells that a path is: the block's words, and the record that it is read as. -/
import Derived.Test.YtmanojnhjhpokaaProg
import Derived.Test.YtmanojnhjhpokaaPD
import Derived.Below
import Derived.Laws.OwnMore
import Derived.Deep.Draws
import Derived.Laws.Rows
import Derived.WalkKit
import Derived.KernelRfl
import Derived.RowKit3
import Derived.Deep.LoopGhost
import Derived.Deep.QuietTactic
import Derived.BigQuiet
import Derived.WideLaws
import Derived.Outline
import Derived.OwnWalk
import Derived.Lib.Hide
namespace Go.Proofs.Ytmanojnhjhpokaa.PB
set_option linter.unusedVariables false
set_option linter.unusedSimpArgs false
open Go.RowKit

def Blk (w : World) (g : Nat) (t : TypeId) (cs : Array Value) : Prop := w.heap[g]? = some (.cells cs t (0, 0))
section
variable {w w' : World} {g : Nat} {t : TypeId} {cs : Array Value}
theorem Blk.lt (h : Blk w g t cs) : g < w.heap.size := by
  rcases Nat.lt_or_ge g w.heap.size with hlt | hge
  · exact hlt
  · unfold Blk at h; rw [Array.getElem?_eq_none hge] at h; cases h
theorem Blk.cell (h : Blk w g t cs) (i : Nat) : w.cell? ⟨g, i, none⟩ = cs[i]? := cell_of_row w g i cs t (0, 0) h
theorem Blk.frozen (h : Blk w g t cs) (i : Nat) : w.frozen? ⟨g, i, none⟩ = false := by
  unfold Blk at h
  simp [World.frozen?, h]
theorem Blk.new (w : World) (t : TypeId) (cs : Array Value) : Blk (w.alloc (.cells cs t)) w.heap.size t cs := heap_alloc_new w _
theorem Blk.drew (h : Blk w g t cs) : Blk w.drew g t cs := h
theorem Blk.drewN (h : Blk w g t cs) (n : Nat) : Blk (w.drewN n) g t cs := h
theorem Blk.alloc (h : Blk w g t cs) (o : Obj) : Blk (w.alloc o) g t cs := (Below.heap_alloc w o g h.lt).trans h
theorem Blk.set_ (h : Blk w g t cs) (i : Nat) (u : Value) : Blk (w.setCell ⟨g, i, none⟩ u) g t (cs.setIfInBounds i u) := by
  unfold Blk at h ⊢
  simp [World.setCell, Array.getElem?_modify, h]
theorem Blk.far (h : Blk w g t cs) {p : Addr} (hp : g ≠ p.block) (u : Value) : Blk (w.setCell p u) g t cs := (Below.heap_setCell w p u g hp).trans h
end

/-- Nothing that stood in w has turned but for block g, which now is the cells cs of type t. -/
structure Put (w w' : World) (g : Nat) (t : TypeId) (cs : Array Value) : Prop where
  blk : Blk w' g t cs
  size : w.heap.size ≤ w'.heap.size
  rest : ∀ i, i < w.heap.size → i ≠ g → w'.heap[i]? = w.heap[i]?
  env : w'.os = w.os ∧ w'.tape = w.tape ∧ w'.output = w.output
section
variable {w w1 w2 : World} {g : Nat} {t : TypeId} {cs cs1 cs2 : Array Value}
theorem Put.refl (h : Blk w g t cs) : Put w w g t cs := ⟨h, Nat.le_refl _, fun _ _ _ => rfl, rfl, rfl, rfl⟩
theorem Put.trans (h : Put w w1 g t cs1) (h2 : Put w1 w2 g t cs2) : Put w w2 g t cs2 :=
  ⟨h2.blk, Nat.le_trans h.size h2.size, fun i hi hg => (h2.rest i (Nat.lt_of_lt_of_le hi h.size) hg).trans (h.rest i hi hg), h2.env.1.trans h.env.1, h2.env.2.1.trans h.env.2.1, h2.env.2.2.trans h.env.2.2⟩
theorem Put.set_ (h : Put w w1 g t cs) (i : Nat) (u : Value) : Put w (w1.setCell ⟨g, i, none⟩ u) g t (cs.setIfInBounds i u) :=
  ⟨h.blk.set_ i u, by have := h.size; simpa using this, fun j hj hg => (Below.heap_setCell w1 ⟨g, i, none⟩ u j hg).trans (h.rest j hj hg), h.env⟩
theorem Put.drew (h : Put w w1 g t cs) : Put w w1.drew g t cs := ⟨h.blk, h.size, h.rest, h.env⟩
theorem Put.drewN (h : Put w w1 g t cs) (n : Nat) : Put w (w1.drewN n) g t cs := ⟨h.blk, h.size, h.rest, h.env⟩
theorem Put.alloc (h : Put w w1 g t cs) (o : Obj) : Put w (w1.alloc o) g t cs :=
  ⟨h.blk.alloc o, Nat.le_trans h.size (by simp), fun i hi hg => (Below.heap_alloc w1 o i (Nat.lt_of_lt_of_le hi h.size)).trans (h.rest i hi hg), h.env⟩
/-- A store into a block that is new since w. -/
theorem Put.far (h : Put w w1 g t cs) {p : Addr} (hp : w.heap.size ≤ p.block) (hg : g < w.heap.size) (u : Value) : Put w (w1.setCell p u) g t cs :=
  ⟨h.blk.far (by omega) u, by have := h.size; simpa using this, fun j hj hg => (Below.heap_setCell w1 p u j (by omega)).trans (h.rest j hj hg), h.env⟩
/-- A block that is new since w is turned. -/
theorem Put.below {W : World} (h : Below w.heap.size w W) (hp : Put W w1 g t cs) (hg : w.heap.size ≤ g) : Below w.heap.size w w1 :=
  ⟨hp.env.1.trans h.os, hp.env.2.1.trans h.tape, hp.env.2.2.trans h.output, Nat.le_trans h.size hp.size, fun i hi => (hp.rest i (Nat.lt_of_lt_of_le hi h.size) (by omega)).trans (h.block i hi)⟩
end
def Pt.cells (s : Pt) : Array Value := #[.int .i64 s.v, .int .i64 s.base, .int .i64 s.most, .int .i64 s.mtries, .int .i64 s.mlosses, .int .i64 s.wait, .int .i64 s.raise, .int .i64 s.state, .int .i64 s.low, .int .i64 s.high, .int .i64 s.hsize, .bool s.hheard, .int .i64 s.tries, .int .i64 s.losses, .int .i64 s.unum, .int .i64 s.usize, .int .i64 s.uat, .bool s.uheard, .int .i64 s.number, .int .i64 s.since, .int .i64 s.now]
abbrev Is (w : World) (g : Nat) (s : Pt) : Prop := Blk w g 66 s.cells
theorem Is.all {w : World} {g : Nat} {s : Pt} (h : Is w g s) : w.cell? ⟨g, 0, none⟩ = some (.int .i64 s.v) ∧ w.cell? ⟨g, 1, none⟩ = some (.int .i64 s.base) ∧ w.cell? ⟨g, 2, none⟩ = some (.int .i64 s.most) ∧ w.cell? ⟨g, 3, none⟩ = some (.int .i64 s.mtries) ∧ w.cell? ⟨g, 4, none⟩ = some (.int .i64 s.mlosses) ∧ w.cell? ⟨g, 5, none⟩ = some (.int .i64 s.wait) ∧ w.cell? ⟨g, 6, none⟩ = some (.int .i64 s.raise) ∧ w.cell? ⟨g, 7, none⟩ = some (.int .i64 s.state) ∧ w.cell? ⟨g, 8, none⟩ = some (.int .i64 s.low) ∧ w.cell? ⟨g, 9, none⟩ = some (.int .i64 s.high) ∧ w.cell? ⟨g, 10, none⟩ = some (.int .i64 s.hsize) ∧ w.cell? ⟨g, 11, none⟩ = some (.bool s.hheard) ∧ w.cell? ⟨g, 12, none⟩ = some (.int .i64 s.tries) ∧ w.cell? ⟨g, 13, none⟩ = some (.int .i64 s.losses) ∧ w.cell? ⟨g, 14, none⟩ = some (.int .i64 s.unum) ∧ w.cell? ⟨g, 15, none⟩ = some (.int .i64 s.usize) ∧ w.cell? ⟨g, 16, none⟩ = some (.int .i64 s.uat) ∧ w.cell? ⟨g, 17, none⟩ = some (.bool s.uheard) ∧ w.cell? ⟨g, 18, none⟩ = some (.int .i64 s.number) ∧ w.cell? ⟨g, 19, none⟩ = some (.int .i64 s.since) ∧ w.cell? ⟨g, 20, none⟩ = some (.int .i64 s.now) :=
  ⟨h.cell 0, h.cell 1, h.cell 2, h.cell 3, h.cell 4, h.cell 5, h.cell 6, h.cell 7, h.cell 8, h.cell 9, h.cell 10, h.cell 11, h.cell 12, h.cell 13, h.cell 14, h.cell 15, h.cell 16, h.cell 17, h.cell 18, h.cell 19, h.cell 20⟩
theorem Is.cell0 {w : World} {g : Nat} {s : Pt} (h : Is w g s) : ∀ i, w.frozen? ⟨g, i, none⟩ = false := fun i => h.frozen i
end Go.Proofs.Ytmanojnhjhpokaa.PB
