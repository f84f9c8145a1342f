/- What holds of memory at the head of a round of ProbeWithin, and of the calls in it. Conditions: those of each theorem. -/
import Derived.Test.YtmanojnhjhpokaaWiA
import Derived.Test.YtmanojnhjhpokaaRB
import Derived.Test.YtmanojnhjhpokaaPM
import Derived.Test.YtmanojnhjhpokaaPB0
import Derived.Laws.AppendOwn
import Derived.OwnWalk
namespace Go.Proofs.Ytmanojnhjhpokaa.PB
set_option linter.unusedVariables false
set_option linter.unusedSimpArgs false
open Go.RowKit
theorem bounded_some (c : Cfg) (w : World) : Calls Try.prog 16 #[.agg #[.int .i64 c.v, .int .i64 c.base, .int .i64 c.most, .int .i64 c.tries, .int .i64 c.losses, .int .i64 c.wait, .int .i64 c.raise]] w fun e w' => ∃ d : Cfg, d = c.made ∧ e = .returned (.agg #[.int .i64 d.v, .int .i64 d.base, .int .i64 d.most, .int .i64 d.tries, .int .i64 d.losses, .int .i64 d.wait, .int .i64 d.raise]) ∧ Below w.heap.size w w' :=
  (bounded_calls c w).mono fun _ _ h => ⟨c.made, rfl, h⟩
/-- A call of the script as it lies in memory. -/
def OpAt (w : World) (b : Addr) (o : Op) : Prop := w.cell? b = some (.int .i64 o.kind) ∧ w.cell? ⟨b.block, b.off + 1, none⟩ = some (.int .i64 o.c.v) ∧ w.cell? ⟨b.block, b.off + 2, none⟩ = some (.int .i64 o.c.base) ∧ w.cell? ⟨b.block, b.off + 3, none⟩ = some (.int .i64 o.c.most) ∧ w.cell? ⟨b.block, b.off + 4, none⟩ = some (.int .i64 o.c.tries) ∧ w.cell? ⟨b.block, b.off + 5, none⟩ = some (.int .i64 o.c.losses) ∧ w.cell? ⟨b.block, b.off + 6, none⟩ = some (.int .i64 o.c.wait) ∧ w.cell? ⟨b.block, b.off + 7, none⟩ = some (.int .i64 o.c.raise) ∧ w.cell? ⟨b.block, b.off + 8, none⟩ = some (.int .i64 o.n) ∧ w.cell? ⟨b.block, b.off + 9, none⟩ = some (.int .i64 o.size) ∧ w.cell? ⟨b.block, b.off + 10, none⟩ = some (.int .i64 o.now)
theorem OpAt.below {w w' : World} {b : Addr} {o : Op} (h : OpAt w b o) (hb : Below w.heap.size w w') : OpAt w' b o := by
  have hl : b.block < w.heap.size := World.block_lt_of_cell? w b h.1
  have k : ∀ a : Addr, a.block = b.block → w'.cell? a = w.cell? a := fun a e => hb.cell (by rw [e]; exact hl)
  unfold OpAt at *
  rw [k b rfl, k ⟨b.block, b.off + 1, none⟩ rfl, k ⟨b.block, b.off + 2, none⟩ rfl, k ⟨b.block, b.off + 3, none⟩ rfl, k ⟨b.block, b.off + 4, none⟩ rfl, k ⟨b.block, b.off + 5, none⟩ rfl, k ⟨b.block, b.off + 6, none⟩ rfl, k ⟨b.block, b.off + 7, none⟩ rfl, k ⟨b.block, b.off + 8, none⟩ rfl, k ⟨b.block, b.off + 9, none⟩ rfl, k ⟨b.block, b.off + 10, none⟩ rfl]
  exact h
def Script (w : World) (a : Addr) (n : Nat) (O : Nat → Op) : Prop := ∀ i, i < n → OpAt w (a.add (i * 11)) (O i)
theorem does_of (K : Int) (s t : Pt) (x : Ans) (g : Nat) (o : Op) (w : World) (hx : Hid (x = s.says o)) (ht : Hid (t = s.after o)) (h : Is w g s) (hi : Inv K s) (hK : K + 1 ≤ 1125899906842624) :
    Calls Try.prog 12 #[.pointer (some ⟨g, 0, none⟩), .agg #[.int .i64 o.kind, .int .i64 o.c.v, .int .i64 o.c.base, .int .i64 o.c.most, .int .i64 o.c.tries, .int .i64 o.c.losses, .int .i64 o.c.wait, .int .i64 o.c.raise, .int .i64 o.n, .int .i64 o.size, .int .i64 o.now]] w fun e w' =>
      e = .returned (.agg #[.int .i64 x.a, .int .i64 x.b, .bool x.yes, .int .i64 x.e, .int .i64 x.size, .int .i64 x.st]) ∧ Put w w' g 66 t.cells := by
  rw [hx.out, ht.out]; exact does_any K s g o w h hi hK
theorem calls_named {P : Program} {f : FuncId} {args : Array Value} {w : World} {R : Ending → World → Prop} (h : ∀ W, W = w → Calls P f args W R) : Calls P f args w R := h w rfl
theorem wp_named {P : Program} {c : Code} {Q : Exit → Act → World → Prop} {a : Act} {w : World} (h : ∀ W, W = w → Code.wp P c Q a W) : Code.wp P c Q a w := h w rfl
theorem Blk.below_ {w w' : World} {g : Nat} {t : TypeId} {cs : Array Value} (h : Blk w g t cs) (hb : Below w.heap.size w w') : Blk w' g t cs := (hb.block g h.lt).trans h
theorem Put.grown {w w1 : World} {g : Nat} {t : TypeId} {cs : Array Value} (h : Put w w1 g t cs) : w.grownBy w1 (some g) := ⟨h.env.1, h.env.2.1, h.env.2.2, h.size, fun k hk hn => h.rest k hk (fun e => hn (by rw [e]))⟩
/-- What holds of the world at the head of a round. -/
structure WW (w wr : World) (g gc B : Nat) (d : Cfg) (s : Pt) (v : Value) (A : List Int) : Prop where
  is : Is wr g s
  box : Blk wr gc 30 #[.int .i64 d.v, .int .i64 d.base, .int .i64 d.most, .int .i64 d.tries, .int .i64 d.losses, .int .i64 d.wait, .int .i64 d.raise]
  row : wr.ownsRow B 3 1 v A.length (A.map (Value.int .i64))
  below : Below w.heap.size w wr
  g0 : w.heap.size ≤ g
  g1 : g < B
  c0 : w.heap.size ≤ gc
  c1 : gc < B
  ne : ¬ gc = g
  size : B ≤ wr.heap.size
section
variable {w wr : World} {g gc B : Nat} {d : Cfg} {s t : Pt} {v : Value} {A : List Int}
theorem WW.alloc (h : WW w wr g gc B d s v A) (o : Obj) : WW w (wr.alloc o) g gc B d s v A :=
  ⟨h.is.alloc o, h.box.alloc o, h.row.alloc o, h.below.alloc (Nat.le_trans (Nat.le_refl _) h.below.size) o, h.g0, h.g1, h.c0, h.c1, h.ne, by have := h.size; simp; omega⟩
theorem ownsRow_drewN {w : World} {B : Nat} {e : TypeId} {z : Nat} {v : Value} {n : Nat} {xs : List Value} (h : w.ownsRow B e z v n xs) (k : Nat) : (w.drewN k).ownsRow B e z v n xs := h
theorem WW.drewN (h : WW w wr g gc B d s v A) (k : Nat) : WW w (wr.drewN k) g gc B d s v A :=
  ⟨h.is.drewN k, h.box.drewN k, ownsRow_drewN h.row k, bdn h.below k, h.g0, h.g1, h.c0, h.c1, h.ne, h.size⟩
theorem WW.grown {w1 : World} (h : WW w wr g gc B d s v A) {k : Option Nat} (hg : wr.grownBy w1 k) (hk : ∀ j, k = some j → B ≤ j) (hne : v.ownBlock = none ∨ v.ownBlock ≠ k) : WW w w1 g gc B d s v A :=
  ⟨(hg.block g h.is.lt (fun e => by have := hk g e.symm; have := h.g1; omega)).trans h.is, (hg.block gc h.box.lt (fun e => by have := hk gc e.symm; have := h.c1; omega)).trans h.box, h.row.kept hg hne,
    ⟨hg.os.trans h.below.os, hg.tape.trans h.below.tape, hg.output.trans h.below.output, Nat.le_trans h.below.size hg.size, fun i hi => (hg.block i (Nat.lt_of_lt_of_le hi h.below.size) (fun e => by have := hk i e.symm; have := h.g0; have := h.g1; omega)).trans (h.below.block i hi)⟩,
    h.g0, h.g1, h.c0, h.c1, h.ne, Nat.le_trans h.size hg.size⟩
theorem WW.put {w1 : World} (h : WW w wr g gc B d s v A) (hp : Put wr w1 g 66 t.cells) : WW w w1 g gc B d t v A :=
  ⟨hp.blk, put_blk hp h.box h.ne, h.row.kept hp.grown (by
    by_cases e : v.ownBlock = none
    · exact .inl e
    · refine .inr fun e2 => ?_
      have := h.row.lt g e2
      have := h.g1
      omega), hp.below h.below h.g0, h.g0, h.g1, h.c0, h.c1, h.ne, Nat.le_trans h.size hp.size⟩
/-- Behind an append. -/
theorem WW.more {w1 : World} {v' : Value} {z : Int} (h : WW w wr g gc B d s v A) (hr : w1.ownsRow B 3 1 v' (A.length + 1) (A.map (Value.int .i64) ++ [.int .i64 z])) (hg : wr.grownBy w1 v.ownBlock) : WW w w1 g gc B d s v' (A ++ [z]) := by
  have hk : ∀ j, v.ownBlock = some j → B ≤ j := fun j e => (h.row.lt j e).1
  refine ⟨(hg.block g h.is.lt (fun e => by have := hk g e.symm; have := h.g1; omega)).trans h.is, (hg.block gc h.box.lt (fun e => by have := hk gc e.symm; have := h.c1; omega)).trans h.box, ?_,
    ⟨hg.os.trans h.below.os, hg.tape.trans h.below.tape, hg.output.trans h.below.output, Nat.le_trans h.below.size hg.size, fun i hi => (hg.block i (Nat.lt_of_lt_of_le hi h.below.size) (fun e => by have := hk i e.symm; have := h.g0; have := h.g1; omega)).trans (h.below.block i hi)⟩,
    h.g0, h.g1, h.c0, h.c1, h.ne, Nat.le_trans h.size hg.size⟩
  rw [List.length_append, List.map_append]
  exact hr
end
theorem mem_take_succ {A : List Int} {k : Nat} {z y : Int} (h : A[k]? = some z) : y ∈ A.take (k + 1) ↔ y ∈ A.take k ∨ z = y := by
  obtain ⟨hk, rfl⟩ := List.getElem?_eq_some_iff.1 h
  rw [List.take_succ_eq_append_getElem hk, List.mem_append, List.mem_singleton]
  constructor
  · rintro (h | h)
    · exact .inl h
    · exact .inr h.symm
  · rintro (h | h)
    · exact .inl h
    · exact .inr h.symm
end Go.Proofs.Ytmanojnhjhpokaa.PB
