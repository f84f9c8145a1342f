/- A region that draws its order: operations that hold in a class of worlds (they read, or call what makes memory), and behind them, in one forced order, operations that write. Conditions: none beyond those that the theorem states. -/
import Derived.Test.YtpciggnanlflkaaGreatDoorBa
namespace Go.Proofs.YtpciggnanlflkaaGreatDoor.W
set_option linter.unusedVariables false
set_option linter.unusedSimpArgs false
open Go.RowKit
section
variable {P : Program} {md : Region.Mode} {ops : Array Oper} {C : World → Prop}
/-- f operations of the head come up, in whatever order; then G. -/
def Head (P : Program) (md : Region.Mode) (ops : Array Oper) (C : World → Prop) (n : Nat) (G : Array Bool → Act → Prop) : Nat → Array Bool → Act → Prop
  | 0, seen, a => G seen a
  | f + 1, seen, a => Region.ready md ops seen ≠ [] ∧ ∀ i ∈ Region.ready md ops seen, i < n ∧ qOp P ops C i (Head P md ops C n G f (seen.setIfInBounds i true)) a
theorem Head.any {n g : Nat} {G : Array Bool → Act → Prop} {Q : Exit → Act → World → Prop} (hG : ∀ seen a w, C w → G seen a → wpAny P md ops Q g seen a w) :
    ∀ (f : Nat) (seen : Array Bool) (a : Act) (w : World), C w → Head P md ops C n G f seen a → wpAny P md ops Q (f + g) seen a w := by
  intro f
  induction f with
  | zero => intro seen a w hw h; simpa using hG seen a w hw h
  | succ f ih =>
    intro seen a w hw h
    have e : f + 1 + g = (f + g) + 1 := by omega
    rw [e]
    refine ⟨fun h0 => absurd h0 h.1, fun i hi => ?_⟩
    exact wpOp_of_qOp hw (fun a' w' hw' => ih _ a' w' hw') (h.2 i hi).2
structure Plan (md : Region.Mode) (ops : Array Oper) (n g : Nat) : Prop where
  sel : Region.noSelect ops = true
  lt : n < ops.size
  sink : Region.sinkB md ops n = true
  chain : Region.chainB md ops n = true
theorem Head.swap {n g : Nat} {G : Array Bool → Act → Prop} (p : Plan md ops n g) (hG : ∀ seen a, G seen a → ∀ j ∈ Region.ready md ops seen, n ≤ j)
    {i : Nat} {o : Oper} {v : Value} (ho : ops[i]? = some o) (hin : i < n) : ∀ (f : Nat) (seen : Array Bool) (a : Act), HeadInv md ops n seen →
      (∀ j oj, ops[j]? = some oj → j ≠ i → seen.getD j true = false → (∀ e ∈ oj.after, Region.binds md e = true → e.on ≠ i) → o.apart ops oj = true) →
      i ∈ Region.ready md ops seen → YieldsIn P ops C o v a → Head P md ops C n G f (seen.setIfInBounds i true) (a.put o.dst v) → Head P md ops C n G (f + 1) seen a := by
  have inHead : ∀ seen, HeadInv md ops n seen → seen.getD i true = false → ∀ j ∈ Region.ready md ops seen, j < n := fun seen inv hun j hj => by
    rcases Nat.lt_or_ge j n with h | h
    · exact h
    · exact absurd hj (tail_waits p.sink p.chain p.lt inv _ i rfl hin hun j h)
  intro f
  induction f with
  | zero =>
    intro seen a inv hfree hr hy H
    have hun := (mem_ready.1 hr).1
    refine ⟨fun h => (by rw [h] at hr; cases hr), fun j hj => ⟨inHead seen inv hun j hj, ?_⟩⟩
    by_cases hji : j = i
    · subst hji; exact hy.qOp ho H
    · have h1 := hG _ _ H j (ready_mono hj hji)
      have h2 := inHead seen inv hun j hj
      omega
  | succ f ih =>
    intro seen a inv hfree hr hy H
    have hun := (mem_ready.1 hr).1
    refine ⟨fun h => (by rw [h] at hr; cases hr), fun j hj => ⟨inHead seen inv hun j hj, ?_⟩⟩
    by_cases hji : j = i
    · subst hji; exact hy.qOp ho H
    · obtain ⟨hjun, oj, hoj, hall⟩ := mem_ready.1 hj
      have hno : ∀ e ∈ oj.after, Region.binds md e = true → e.on ≠ i := fun e he hb heq => by
        have := hall e he hb
        rw [heq, getD_both hun] at this; cases this
      have step := qOp_put hoj (hfree j oj hoj hji hjun hno) (fun cs b => Region.noSelect_spec p.sel i o cs b ho) (fun cs b => Region.noSelect_spec p.sel j oj cs b hoj) hy (H.2 j (ready_mono hj hji)).2
      refine qOp_mono (fun a' h3 => ih _ a' (inv.set hj (inHead seen inv hun j hj)) (fun k ok hk hki hku hkn => hfree k ok hk hki ?_ hkn) (ready_mono hr (Ne.symm hji)) h3.1 ?_) step
      · by_cases hjk : j = k
        · exact hjk ▸ hjun
        · rwa [getD_set_ne true hjk] at hku
      · rw [Array.setIfInBounds_comm _ _ hji]; exact h3.2
theorem Head.lex {n g : Nat} {T : Act → Prop} (p : Plan md ops n g) : ∀ (l : List Oper) (k : Nat) (seen : Array Bool) (a : Act), (∀ j, j < l.length → l[j]? = ops[k + j]?) → k + l.length = n → HeadInv md ops n seen →
    Region.lexHead md ops g l.length k seen = true → wpQuiet P ops C T l a → Head P md ops C n (fun s a' => Region.seqB md ops g n s = true ∧ T a') l.length seen a := by
  intro l
  induction l with
  | nil =>
    intro k seen a _ hk _ hB h
    obtain rfl : k = n := by simpa using hk
    exact ⟨by simpa [Region.lexHead] using hB, h⟩
  | cons o l ih =>
    intro k seen a hl hk inv hB h
    have ho : ops[k]? = some o := by have := hl 0 (by simp); simpa using this.symm
    simp only [List.length_cons] at hk hB
    simp only [Region.lexHead, Bool.and_eq_true] at hB
    have hr : k ∈ Region.ready md ops seen := by simpa using hB.1.1
    have hq : qOp P ops C k (wpQuiet P ops C T l) a := by unfold qOp; simp only [ho]; exact h
    obtain ⟨v, hy, hK⟩ := yieldsIn_of_qOp ho hq
    refine Head.swap p (fun s a' hL => seqB_ready hL.1) ho (by omega) l.length seen a inv (Region.free_spec ho hB.1.2) hr hy ?_
    refine ih (k + 1) _ _ (fun j hj => ?_) (by omega) (inv.set hr (by omega)) hB.2 hK
    have := hl (j + 1) (by simpa using hj)
    simpa [Nat.add_assoc, Nat.add_comm 1 j] using this
end
/-- The head reads and calls, in whatever order: the world is one that comes later than w; then the tail, in the text's order. -/
theorem region_later_tail {P : Program} {id : Nat} {l : List Oper} {Q : Exit → Act → World → Prop} {a : Act} {w : World} (n : Nat) (hm : P.follows .mixedOrders = true) (hB : Region.lexTailB .any l.toArray n = true)
    (h : wpQuiet P l.toArray (fun z => ∃ x : Later w, z = x.val) (fun a' => ∀ z, Below w.heap.size w z → wpList P l.toArray Q (l.drop n) a' z) (l.take n) a) : (Code.region id l.toArray true).wp P Q a w := by
  simp only [Region.lexTailB, Bool.and_eq_true, decide_eq_true_eq] at hB
  obtain ⟨⟨⟨⟨hsel, hn⟩, hs⟩, hc⟩, hlex⟩ := hB
  have hn' : n < l.length := by simpa using hn
  have htl : (l.take n).length = n := by simp; omega
  have inv0 : HeadInv .any l.toArray n (Array.replicate l.toArray.size false) :=
    ⟨by simp, fun j oj _ hl => (by rw [getD_replicate_false] at hl; cases hl), fun t _ ht => getD_in (by simpa using ht) (getD_replicate_false _ _)⟩
  have H := Head.lex (md := .any) (g := l.toArray.size - n) ⟨hsel, hn, hs, hc⟩ (l.take n) 0 _ a (fun j hj => by
    have hj' : j < n := by rw [htl] at hj; exact hj
    simp [hj']) (by simpa using htl) inv0 (by rw [htl]; exact hlex) h
  refine wp_region_any hm ?_
  have key := Head.any (Q := Q) (g := l.toArray.size - n) (fun seen a' w' hw' hL => by
    obtain ⟨x, rfl⟩ := hw'
    have := wpAny_of_seq (P := P) (Q' := Q) (l.drop n) n seen a' x.val (fun j => by simp) (by simpa using hL.1) (hL.2 _ x.property)
    simpa using this) _ _ a w.drew ⟨⟨w.drew, (Below.refl _ _).drew⟩, rfl⟩ H
  rw [htl, Nat.add_sub_cancel' (Nat.le_of_lt hn)] at key
  exact key
/-- A whole block loaded in a class of later worlds. -/
theorem quiet_load {P : Program} {w : World} {o : Oper} {a : Act} {K : Act → Prop} (ty : TypeId) (x : Operand) (ho : o.op = .load ty x) (g : Nat) (t : TypeId) (cs : Array Value) (d : TypeDesc)
    (hx : a.eval x = .pointer (some ⟨g, 0, none⟩)) (hb : Blk w g t cs) (hu : P.underlying ty = some d) (hd : (match d with | .struct _ | .array _ _ => true | _ => false) = true)
    (hi : (P.info? ty).map (·.size) = some cs.size) (hk : K (a.put o.dst (.agg cs))) : o.quiet P a (fun z => ∃ x : Later w, z = x.val) K := by
  refine ⟨.agg cs, ?_, hk⟩
  rintro _ ⟨z, rfl⟩
  unfold Oper.quietAt execOp
  simp only [ho, hx, Instr.loadAt, Instr.sureAddr, Sem.run_bind, Sem.run_pure, Result.andThen_ok, run_loadVar_row z.val g t ty cs (0, 0) d (Later.blk hb z) hu hd hi]
  exact ⟨rfl, rfl⟩
end Go.Proofs.YtpciggnanlflkaaGreatDoor.W
