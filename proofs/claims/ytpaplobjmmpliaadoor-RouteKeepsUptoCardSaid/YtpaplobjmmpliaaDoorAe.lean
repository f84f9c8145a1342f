/- Go's == and != on arrays of bytes and on addresses. Conditions: an address has sixteen bytes. -/
import Derived.Test.YtpaplobjmmpliaaDoorAx
import Derived.ChangeKeysEq
namespace Go.Proofs.YtpaplobjmmpliaaDoor.Ad
set_option linter.unusedVariables false
set_option linter.unusedSimpArgs false
open Go.RowKit W
def bcells (l : List UInt8) : Array Value := (l.map by8).toArray
theorem all_same : ∀ (l m : List UInt8), l.length = m.length → ((List.range l.length).all fun i => l.getD i 0 == m.getD i 0) = (l == m)
  | [], [], _ => rfl
  | x :: l, y :: m, h => by
    rw [List.length_cons, List.range_succ_eq_map, List.all_cons, List.all_map]
    have := all_same l m (by simpa using h)
    simp only [Function.comp_def, List.getD_cons_zero, List.getD_cons_succ]
    rw [this]; rfl
theorem part_byte (l : List UInt8) (i : Nat) (hi : i < l.length) (w : World) : (part 5 (bcells l) i).run Tryd.prog w = .ok (by8 (l.getD i 0)) w := by
  have h : (bcells l)[i]? = some (by8 (l.getD i 0)) := by simp [bcells, List.getElem?_eq_getElem hi]
  have h2 : (isAgg 5).run Tryd.prog w = .ok false w := by kernel_rfl
  unfold part
  rw [Sem.run_bind, h2]
  simp [h]
theorem items_bytes (d : Nat) (l m : List UInt8) (hl : l.length = m.length) : ∀ (is : List Nat) (w : World), (∀ i ∈ is, i < l.length) →
    (Op.eqItems (d + 1) 5 1 (bcells l) (bcells m) is).run Tryd.prog w = .ok (is.all fun i => l.getD i 0 == m.getD i 0) w
  | [], w, _ => by simp [Op.eqItems]
  | i :: is, w, h => by
    have ih := items_bytes d l m hl is w fun j hj => h j (List.mem_cons_of_mem _ hj)
    have hi := h i List.mem_cons_self
    simp only [Op.eqItems, Nat.mul_one, Sem.run_bind, part_byte l i hi w, Result.andThen_ok, part_byte m i (by omega) w]
    unfold by8
    rw [run_equalIn_int w d 5 .u8 .u8 _ _ Tryd.underlying5]
    simp only [Result.andThen_ok, List.all_cons]
    by_cases e : l.getD i 0 = m.getD i 0
    · rw [e]; simp [ih]
    · have e' : ¬ ((l.getD i 0).toNat : Int) = (m.getD i 0).toNat := fun h => e (UInt8.toNat_inj.1 (by omega))
      rw [beq_eq_false_iff_ne.2 e', beq_eq_false_iff_ne.2 e]; simp
theorem equal_bytes (d : Nat) (l m : List UInt8) (hl : l.length = 16) (hm : m.length = 16) (w : World) :
    (Op.equalIn (d + 2) 33 (.agg (bcells l)) (.agg (bcells m))).run Tryd.prog w = .ok (l == m) w := by
  obtain ⟨i, hi, hs⟩ : ∃ i, Tryd.prog.info? 5 = some i ∧ i.size = 1 := by
    have : (Tryd.prog.info? 5).map (·.size) = some 1 := by kernel_rfl
    cases h : Tryd.prog.info? 5 with
    | none => rw [h] at this; cases this
    | some i => rw [h] at this; exact ⟨i, rfl, by simpa using this⟩
  have hc : Tryd.prog.cellsOf 5 = 1 := by kernel_rfl
  rw [run_equalIn_array w (d + 1) (bcells l) (bcells m) (n := 16) (e := 5) Tryd.underlying33 hi, hc, items_bytes d l m (by omega) _ _ (by intro j hj; have := List.mem_range.1 hj; omega)]
  have := all_same l m (by omega)
  rw [hl] at this
  rw [this]
theorem deep (n d : Nat) (h : n = d) (t : TypeId) (x y : Value) : Op.equalIn n t x y = Op.equalIn d t x y := by rw [h]
theorem eql_bytes (l m : List UInt8) (hl : l.length = 16) (hm : m.length = 16) (w : World) : (binOp .eql 33 (.agg (bcells l)) (.agg (bcells m))).run Tryd.prog w = .ok (.bool (l == m)) w := by
  have h := equal_bytes 9998 l m hl hm w
  rw [deep _ 10000 (by omega)] at h
  rw [run_eql_struct, h]; rfl
theorem equal_ad (d : Nat) (a c : Addr) (ha : a.ok) (hc : c.ok) (w : World) : (Op.equalIn (d + 3) 35 (.agg a.cells) (.agg c.cells)).run Tryd.prog w = .ok (decide (a = c)) w := by
  have hf : (Tryd.prog.fieldsOf 35).toList.map (fun f => (f.name != "_", f.type, f.offset)) = [(true, 3, 0), (true, 33, 1)] := by kernel_rfl
  rw [run_equalIn_struct w (d + 2) 35 a.cells c.cells (by kernel_rfl) (by kernel_rfl)]
  generalize (Tryd.prog.fieldsOf 35).toList = fs at hf
  obtain ⟨f1, f2, rfl⟩ : ∃ f1 f2, fs = [f1, f2] := by
    rcases fs with _ | ⟨f1, _ | ⟨f2, _ | ⟨f3, fs⟩⟩⟩
    · simp at hf
    · simp at hf
    · exact ⟨f1, f2, rfl⟩
    · simp at hf
  · simp only [List.map_cons, List.map_nil, List.cons.injEq, Prod.mk.injEq, and_true] at hf
    obtain ⟨⟨n1, t1, o1⟩, n2, t2, o2⟩ := hf
    have n1' : f1.name ≠ "_" := bne_iff_ne.1 n1
    have n2' : f2.name ≠ "_" := bne_iff_ne.1 n2
    have g1 : ∀ (x : Addr) w, (part 3 x.cells 0).run Tryd.prog w = .ok (.int .i64 x.v) w := fun x w => by
      have h2 : (isAgg 3).run Tryd.prog w = .ok false w := by kernel_rfl
      unfold part; rw [Sem.run_bind, h2]; rfl
    have g2 : ∀ (x : Addr) (hx : x.ok) w, (part 33 x.cells 1).run Tryd.prog w = .ok (.agg (bcells x.b)) w := fun x hx w => by
      have h2 : (isAgg 33).run Tryd.prog w = .ok true w := by kernel_rfl
      have h3 : (sizeOf 33).run Tryd.prog w = .ok 16 w := by kernel_rfl
      unfold part; rw [Sem.run_bind, h2]
      simp only [Result.andThen_ok, if_true, Sem.run_bind, h3, Sem.run_pure]
      unfold Addr.ok at hx
      have : x.cells.extract 1 (1 + 16) = bcells x.b := by
        apply Array.toList_inj.1
        simp only [Addr.cells, bcells, Array.toList_extract, List.extract_eq_take_drop, List.drop_succ_cons, List.drop_zero]
        rw [List.take_of_length_le (by simp; omega)]
      rw [this]
    simp only [Op.eqFields, t1, t2, o1, o2, if_pos n1', if_pos n2', ne_eq, n1', n2', not_false_eq_true, if_true, Sem.run_bind, g1, g2 a ha, g2 c hc, Result.andThen_ok]
    rw [run_equalIn_int w (d + 1) 3 .i64 .i64 _ _ Tryd.underlying3]
    simp only [Result.andThen_ok]
    have e3 := equal_bytes d a.b c.b ha hc w
    by_cases e : a.v = c.v
    · rw [beq_iff_eq.2 e]
      simp only [Bool.not_true, Bool.false_eq_true, if_false, Sem.run_bind, g1, g2 a ha, g2 c hc, Result.andThen_ok, e3]
      by_cases e2 : a.b = c.b
      · have : a = c := by cases a; cases c; simp_all
        rw [beq_iff_eq.2 e2, decide_eq_true this]; simp
      · have : ¬ a = c := fun h => e2 (by rw [h])
        rw [beq_eq_false_iff_ne.2 e2, decide_eq_false this]; simp
    · have : ¬ a = c := fun h => e (by rw [h])
      rw [beq_eq_false_iff_ne.2 e, decide_eq_false this]; simp
theorem eql_ad (a c : Addr) (ha : a.ok) (hc : c.ok) (w : World) : (binOp .eql 35 (.agg a.cells) (.agg c.cells)).run Tryd.prog w = .ok (.bool (decide (a = c))) w := by
  have h := equal_ad 9997 a c ha hc w
  rw [deep _ 10000 (by omega)] at h
  rw [run_eql_struct, h]; rfl
theorem neq_ad (a c : Addr) (ha : a.ok) (hc : c.ok) (w : World) : (binOp .neq 35 (.agg a.cells) (.agg c.cells)).run Tryd.prog w = .ok (.bool (!decide (a = c))) w := by
  have h := equal_ad 9997 a c ha hc w
  rw [deep _ 10000 (by omega)] at h
  rw [run_neq_struct, h]; rfl
end Go.Proofs.YtpaplobjmmpliaaDoor.Ad
