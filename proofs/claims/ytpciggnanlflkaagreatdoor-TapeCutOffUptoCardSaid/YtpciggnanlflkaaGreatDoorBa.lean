/- Words on blocks of cells: a block that is known whole; what a call that makes memory leaves of it; worlds that come later. Conditions: none beyond those that each theorem states. -/
import Derived.Below
import Derived.Laws.OwnMore
import Derived.Deep.Draws
import Derived.Laws.Rows
import Derived.WalkKit
import Derived.KernelRfl
import Derived.RowKit3
import Derived.Deep.LoopGhost
import Derived.Deep.QuietTactic
import Derived.BigQuiet
import Derived.WideLaws
import Derived.Outline
import Derived.OwnWalk
import Derived.Lib.Hide
import Derived.Deep.Cut
import Derived.Deep.MidRow
import Derived.StillTail
import Derived.StillTactics
import Derived.Laws.ResultCell
import Derived.Deep.CutRange
import Derived.Deep.CutBlock
import Derived.Deep.DeepCutAuto
import Derived.Laws.AppendOwn
import Derived.WalkLawsBesides
import Derived.WalkSpells
namespace Go.Proofs.YtpciggnanlflkaaGreatDoor.W
set_option linter.unusedVariables false
set_option linter.unusedSimpArgs false
open Go.RowKit
def Blk (w : World) (g : Nat) (t : TypeId) (cs : Array Value) : Prop := w.heap[g]? = some (.cells cs t (0, 0))
section
variable {w w' : World} {g : Nat} {t : TypeId} {cs : Array Value}
theorem Blk.lt (h : Blk w g t cs) : g < w.heap.size := by
  rcases Nat.lt_or_ge g w.heap.size with hlt | hge
  · exact hlt
  · unfold Blk at h; rw [Array.getElem?_eq_none hge] at h; cases h
theorem Blk.cell (h : Blk w g t cs) (i : Nat) : w.cell? ⟨g, i, none⟩ = cs[i]? := cell_of_row w g i cs t (0, 0) h
theorem Blk.frozen (h : Blk w g t cs) (i : Nat) : w.frozen? ⟨g, i, none⟩ = false := by
  unfold Blk at h
  simp [World.frozen?, h]
theorem Blk.new (w : World) (t : TypeId) (cs : Array Value) : Blk (w.alloc (.cells cs t)) w.heap.size t cs := heap_alloc_new w _
theorem Blk.drew (h : Blk w g t cs) : Blk w.drew g t cs := h
theorem Blk.drewN (h : Blk w g t cs) (n : Nat) : Blk (w.drewN n) g t cs := h
theorem Blk.alloc (h : Blk w g t cs) (o : Obj) : Blk (w.alloc o) g t cs := (Below.heap_alloc w o g h.lt).trans h
theorem Blk.set_ (h : Blk w g t cs) (i : Nat) (u : Value) : Blk (w.setCell ⟨g, i, none⟩ u) g t (cs.setIfInBounds i u) := by
  unfold Blk at h ⊢
  simp [World.setCell, Array.getElem?_modify, h]
theorem Blk.far (h : Blk w g t cs) {p : Addr} (hp : g ≠ p.block) (u : Value) : Blk (w.setCell p u) g t cs := (Below.heap_setCell w p u g hp).trans h
theorem Blk.later {B : Nat} (h : Blk w g t cs) (hb : Below B w w') (hg : g < B) : Blk w' g t cs := (hb.block g hg).trans h
theorem Blk.eq {cs' : Array Value} (h : Blk w g t cs) (h' : Blk w g t cs') : cs = cs' := by
  unfold Blk at h h'; rw [h] at h'; injection h' with h'; injection h'
end
/-- Nothing that stood in w has turned but for block g, which now is the cells cs of type t. -/
structure Put (w w' : World) (g : Nat) (t : TypeId) (cs : Array Value) : Prop where
  blk : Blk w' g t cs
  size : w.heap.size ≤ w'.heap.size
  rest : ∀ i, i < w.heap.size → i ≠ g → w'.heap[i]? = w.heap[i]?
  env : w'.os = w.os ∧ w'.tape = w.tape ∧ w'.output = w.output
section
variable {w w1 w2 : World} {g : Nat} {t : TypeId} {cs cs1 cs2 : Array Value}
theorem Put.refl (h : Blk w g t cs) : Put w w g t cs := ⟨h, Nat.le_refl _, fun _ _ _ => rfl, rfl, rfl, rfl⟩
theorem Put.trans (h : Put w w1 g t cs1) (h2 : Put w1 w2 g t cs2) : Put w w2 g t cs2 :=
  ⟨h2.blk, Nat.le_trans h.size h2.size, fun i hi hg => (h2.rest i (Nat.lt_of_lt_of_le hi h.size) hg).trans (h.rest i hi hg), h2.env.1.trans h.env.1, h2.env.2.1.trans h.env.2.1, h2.env.2.2.trans h.env.2.2⟩
theorem Put.set_ (h : Put w w1 g t cs) (i : Nat) (u : Value) : Put w (w1.setCell ⟨g, i, none⟩ u) g t (cs.setIfInBounds i u) :=
  ⟨h.blk.set_ i u, by have := h.size; simpa using this, fun j hj hg => (Below.heap_setCell w1 ⟨g, i, none⟩ u j hg).trans (h.rest j hj hg), h.env⟩
theorem Put.drew (h : Put w w1 g t cs) : Put w w1.drew g t cs := ⟨h.blk, h.size, h.rest, h.env⟩
theorem Put.drewN (h : Put w w1 g t cs) (n : Nat) : Put w (w1.drewN n) g t cs := ⟨h.blk, h.size, h.rest, h.env⟩
theorem Put.alloc (h : Put w w1 g t cs) (o : Obj) : Put w (w1.alloc o) g t cs :=
  ⟨h.blk.alloc o, Nat.le_trans h.size (by simp), fun i hi hg => (Below.heap_alloc w1 o i (Nat.lt_of_lt_of_le hi h.size)).trans (h.rest i hi hg), h.env⟩
/-- A block that is new since w is turned. -/
theorem Put.below {B : Nat} (hp : Put w1 w2 g t cs) (h : Below B w w1) (hg : B ≤ g) (hB : B ≤ w1.heap.size) : Below B w w2 :=
  ⟨hp.env.1.trans h.os, hp.env.2.1.trans h.tape, hp.env.2.2.trans h.output, Nat.le_trans h.size hp.size, fun i hi => (hp.rest i (by omega) (by omega)).trans (h.block i hi)⟩
/-- Another block stands. -/
theorem Put.far (hp : Put w1 w2 g t cs) {g' : Nat} {t' : TypeId} {cs' : Array Value} (h : Blk w1 g' t' cs') (hg : g' ≠ g) : Blk w2 g' t' cs' := (hp.rest g' h.lt hg).trans h
end
def setAll : Array Value → Nat → List Value → Array Value
  | cs, _, [] => cs
  | cs, o, v :: vs => setAll (cs.setIfInBounds o v) (o + 1) vs
theorem setAll_get : ∀ (vs : List Value) (cs : Array Value) (o i : Nat), (setAll cs o vs)[i]? = if o ≤ i ∧ i < o + vs.length ∧ i < cs.size then vs[i - o]? else cs[i]?
  | [], cs, o, i => by simp only [setAll, List.length_nil]; rw [if_neg (by omega)]
  | v :: vs, cs, o, i => by
    rw [setAll, setAll_get vs, Array.size_setIfInBounds]
    by_cases h1 : i = o
    · subst h1
      rw [if_neg (by omega)]
      by_cases h2 : i < cs.size
      · rw [if_pos ⟨Nat.le_refl _, by simp, h2⟩]; simp [Array.getElem?_setIfInBounds, h2]
      · rw [if_neg (by omega)]; simp [Array.getElem?_setIfInBounds, h2]
    · by_cases h2 : o + 1 ≤ i ∧ i < o + 1 + vs.length ∧ i < cs.size
      · rw [if_pos h2, if_pos ⟨by omega, by simp; omega, h2.2.2⟩, show i - o = (i - (o + 1)) + 1 by omega]; rfl
      · rw [if_neg h2, if_neg (by simp; omega), Array.getElem?_setIfInBounds, if_neg (by omega)]
theorem setAll_whole {cs cs' : Array Value} (h : cs'.size = cs.size) : setAll cs 0 cs'.toList = cs' := by
  apply Array.ext_getElem?
  intro i
  rw [setAll_get]
  by_cases hi : i < cs.size
  · rw [if_pos ⟨by omega, by simp; omega, hi⟩]; simp
  · rw [if_neg (by omega), Array.getElem?_eq_none (by omega), Array.getElem?_eq_none (by omega)]
theorem put_setCells {g : Nat} {t : TypeId} : ∀ (vs : List Value) (o : Nat) (w : World) (cs : Array Value), Blk w g t cs → Put w (w.setCells g o vs) g t (setAll cs o vs)
  | [], o, w, cs, h => Put.refl h
  | v :: vs, o, w, cs, h => by
    have h1 := (Put.refl h).set_ o v
    exact h1.trans (put_setCells vs (o + 1) _ _ h1.blk)
/-- A whole block written over by a value of the same size. -/
theorem wpList_store_blk {P : Program} {ops : Array Oper} {rest : List Oper} {op : Oper} {a : Act} {w : World} {Q : Exit → Act → World → Prop} (hgd : op.guard = none) (ty : TypeId) (x y : Operand) (ho : op.op = .store ty x y)
    (g : Nat) (t : TypeId) (cs cs' : Array Value) (hx : a.eval x = .pointer (some ⟨g, 0, none⟩)) (hy : a.eval y = .agg cs') (hb : Blk w g t cs) (hs : cs'.size = cs.size)
    (hi : (P.info? ty).map (·.size) = some cs'.size) (h1 : cs'.all (·.oneCell') = true) (h : ∀ w', Put w w' g t cs' → wpList P ops Q rest (a.put op.dst undef) w') : wpList P ops Q (op :: rest) a w := by
  refine wpList_store_mid hgd ty x y ho g 0 cs' hx hy (fun j hj => ⟨?_, ?_⟩) hi h1 ?_
  · rw [Nat.zero_add, hb.cell]; simp; omega
  · rw [Nat.zero_add, hb.frozen]
  · refine h _ ?_
    have := put_setCells cs'.toList 0 w cs hb
    rwa [setAll_whole hs] at this
theorem wpList_load_blk {P : Program} {ops : Array Oper} {rest : List Oper} {o : Oper} {a : Act} {w : World} {Q : Exit → Act → World → Prop} (hw : Region.wanted o (yielded ops a.tmps) = true) (ty : TypeId) (x : Operand) (ho : o.op = .load ty x)
    (g : Nat) (t : TypeId) (cs : Array Value) (d : TypeDesc) (hx : a.eval x = .pointer (some ⟨g, 0, none⟩)) (hb : Blk w g t cs) (hu : P.underlying ty = some d) (hd : (match d with | .struct _ | .array _ _ => true | _ => false) = true)
    (hi : (P.info? ty).map (·.size) = some cs.size) (h : wpList P ops Q rest (a.put o.dst (.agg cs)) w) : wpList P ops Q (o :: rest) a w :=
  BigFrame.wpList_want hw fun _ hK => wp_load_row ty x ho g hx t cs (0, 0) d hb hu hd hi (hK _ _ h)
theorem results_cell2 {P : Program} {fn : Func} {p u : Tmp} {ty : TypeId} (h : fn.results = #[.cell p ty, .tmp u]) (tmps : Array Value) (w : World) (g : Nat) (t : TypeId) (cs : Array Value) (d : TypeDesc)
    (hp : tmps.getD p undef = .pointer (some ⟨g, 0, none⟩)) (hb : Blk w g t cs) (hu : P.underlying ty = some d) (hd : (match d with | .struct _ | .array _ _ => true | _ => false) = true) (hi : (P.info? ty).map (·.size) = some cs.size) :
    (results fn tmps).run P w = .ok (.tuple #[.agg cs, tmps.getD u undef]) w := by
  rw [results_cell_tmp h, hp]
  simp [asAddr, run_loadVar_row w g t ty cs (0, 0) d hb hu hd hi]
theorem region_still_tail {P : Program} {id : Nat} {Q : Exit → Act → World → Prop} {a : Act} {w : World} {l : List Oper} (n : Nat) (hm : P.follows .mixedOrders = true) (hB : Region.lexTailB .any l.toArray n = true)
    (h : wpStill P l.toArray w.drew (fun a' => wpList P l.toArray Q (l.drop n) a' w.drew) (l.take n) a) : (Code.region id l.toArray true).wp P Q a w := wp_region_still_tail n hm hB h
theorem wp_named {P : Program} {c : Code} {Q : Exit → Act → World → Prop} {a : Act} {w : World} (h : ∀ W, W = w → Code.wp P c Q a W) : Code.wp P c Q a w := h w rfl
theorem Below.drewN' {B : Nat} {a w : World} (h : Below B a w) (n : Nat) : Below B a (w.drewN n) := ⟨h.os, h.tape, h.output, h.size, h.block⟩
/-- A world behind w in which all that w holds stands as it stood. -/
def Later (w : World) : Type := {z : World // Below w.heap.size w z}
instance (w : World) : Nonempty (Later w) := ⟨⟨w, Below.refl _ _⟩⟩
def InLater (w : World) (z : World) : Prop := ∃ x : Later w, z = x.val
theorem InLater.of {w z : World} (h : Below w.heap.size w z) : InLater w z := ⟨⟨z, h⟩, rfl⟩
theorem Later.cell {w : World} {a : Addr} {v : Value} (h : w.cell? a = some v) (z : Later w) : z.val.cell? a = some v :=
  (z.property.cell (World.block_lt_of_cell? w a h)).trans h
theorem Later.blk {w : World} {g : Nat} {t : TypeId} {cs : Array Value} (h : Blk w g t cs) (z : Later w) : Blk z.val g t cs := h.later z.property h.lt
/-- A callee that makes memory, met in a later world. -/
theorem calls_later {P : Program} {f : FuncId} {args : Array Value} {w : World} {z : Later w} {v : Value}
    (h : Calls P f args z.val fun e w' => e = .returned v ∧ Below z.val.heap.size z.val w') : Calls P f args z.val fun e w'' => e = .returned v ∧ ∃ x : Later w, w'' = x.val :=
  h.mono fun _ _ ⟨he, hb⟩ => ⟨he, ⟨_, z.property.trans (hb.mono z.property.size)⟩, rfl⟩
theorem calls_later_same {P : Program} {f : FuncId} {args : Array Value} {w : World} {z : Later w} {v : Value}
    (h : Calls P f args z.val fun e w' => e = .returned v ∧ z.val = w') : Calls P f args z.val fun e w'' => e = .returned v ∧ ∃ x : Later w, w'' = x.val :=
  h.mono fun _ _ ⟨he, hb⟩ => ⟨he, z, hb.symm⟩
theorem region_later {P : Program} {id : Nat} {l : List Oper} {Q : Exit → Act → World → Prop} {a : Act} {w : World} (hm : P.follows .mixedOrders = true) (hB : Region.lexB .any l.toArray = true)
    (h : wpQuiet P l.toArray (fun z => ∃ x : Later w, z = x.val) (fun a' => ∀ z, Below w.heap.size w z → Q .normal a' z) l a) : (Code.region id l.toArray true).wp P Q a w := by
  refine wp_region_quiet (C := fun z => ∃ x : Later w, z = x.val) hm hB ⟨⟨w.drew, (Below.refl _ _).drew⟩, rfl⟩ ?_
  have e : (fun a' => ∀ z, (∃ x : Later w, z = x.val) → Q .normal a' z) = (fun a' => ∀ z, Below w.heap.size w z → Q .normal a' z) := by
    funext a'
    exact propext ⟨fun h z hz => h z ⟨⟨z, hz⟩, rfl⟩, fun h z ⟨x, hx⟩ => hx ▸ h _ x.property⟩
  rw [e]
  simpa using h
end Go.Proofs.YtpciggnanlflkaaGreatDoor.W
