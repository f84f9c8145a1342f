/- Routes in memory, and the nets as keys of a map. Conditions: an address has sixteen bytes, numbers lie within 64 bits. -/
import Derived.Test.YtpaplobjmmpliaaDoorRa
import Derived.Deep.MidRow
import Derived.DeepKeys4
import Derived.Maps.OwnSet
import Derived.Maps.AppendAt
namespace Go.Proofs.YtpaplobjmmpliaaDoor.Ad
set_option linter.unusedVariables false
set_option linter.unusedSimpArgs false
open Go.RowKit Go.Maps W
def Addr.vals (a : Addr) : List Value := .int .i64 a.v :: a.b.map by8
theorem cells_vals (a : Addr) : a.cells = a.vals.toArray := rfl
theorem avals_len {a : Addr} (h : a.ok) : a.vals.length = 17 := by unfold Addr.ok at h; simp [Addr.vals, h]
def Rt.vals (r : Rt) : List Value := r.net.vals ++ [.int .i64 r.bits, .int .i64 r.link]
def Rt.cells (r : Rt) : Array Value := r.vals.toArray
theorem vals_len {r : Rt} (h : r.ok) : r.vals.length = 19 := by simp [Rt.vals, avals_len h]
theorem rsize : (Tryd.prog.info? 44).map (·.size) = some 19 := by kernel_rfl
theorem rszc {r : Rt} (h : r.ok) : (Tryd.prog.info? 44).map (·.size) = some r.cells.size := by rw [rsize]; simp [Rt.cells, vals_len h]
theorem rone (r : Rt) : r.cells.all (·.oneCell') = true := by
  simp [Rt.cells, Rt.vals, Addr.vals, Value.oneCell', by8]
/-- Numbers within 64 bits. -/
structure Rt.wf (r : Rt) : Prop where
  ok : r.ok
  v : (Lit.int .i64 r.net.v).wf = true
  bits : (Lit.int .i64 r.bits).wf = true
  link : (Lit.int .i64 r.link).wf = true
/-- A route in a block of its own. -/
theorem net_at {w : World} {g : Nat} {r : Rt} (h : Blk w g 44 r.cells) : w.rangeAt g 0 r.net.vals := fun j v hj => by
  rw [Nat.zero_add, h.cell]
  simp only [Rt.cells, Rt.vals, List.getElem?_toArray]
  rw [List.getElem?_append_left (List.getElem?_eq_some_iff.1 hj).1]; exact hj
theorem bits_at {w : World} {g : Nat} {r : Rt} (h : Blk w g 44 r.cells) (ho : r.ok) : w.cell? ⟨g, 17, none⟩ = some (.int .i64 r.bits) := by
  rw [h.cell]
  simp only [Rt.cells, Rt.vals, List.getElem?_toArray]
  rw [List.getElem?_append_right (by rw [avals_len ho]; omega), avals_len ho]; rfl
theorem link_at {w : World} {g : Nat} {r : Rt} (h : Blk w g 44 r.cells) (ho : r.ok) : w.cell? ⟨g, 18, none⟩ = some (.int .i64 r.link) := by
  rw [h.cell]
  simp only [Rt.cells, Rt.vals, List.getElem?_toArray]
  rw [List.getElem?_append_right (by rw [avals_len ho]; omega), avals_len ho]; rfl
/-- A row of routes. -/
def Has (w : World) (g o : Nat) (l : List Rt) : Prop := ∀ (i : Nat) (r : Rt), l[i]? = some r → w.rangeAt g (o + i * 19) r.vals
theorem Has.later {w w' : World} {g o : Nat} {l : List Rt} {B : Nat} (h : Has w g o l) (hb : Below B w w') (hg : g < B) : Has w' g o l := fun i r hr j v hj => (hb.cell (by exact hg)).trans (h i r hr j v hj)
theorem Has.bits {w : World} {g o : Nat} {l : List Rt} (h : Has w g o l) {i : Nat} {r : Rt} (hr : l[i]? = some r) (ho : r.ok) : w.cell? ⟨g, o + i * 19 + 17, none⟩ = some (.int .i64 r.bits) :=
  h i r hr 17 (.int .i64 r.bits) (by simp only [Rt.vals]; rw [List.getElem?_append_right (by rw [avals_len ho]; omega), avals_len ho]; rfl)
theorem Has.link {w : World} {g o : Nat} {l : List Rt} (h : Has w g o l) {i : Nat} {r : Rt} (hr : l[i]? = some r) (ho : r.ok) : w.cell? ⟨g, o + i * 19 + 18, none⟩ = some (.int .i64 r.link) :=
  h i r hr 18 (.int .i64 r.link) (by simp only [Rt.vals]; rw [List.getElem?_append_right (by rw [avals_len ho]; omega), avals_len ho]; rfl)
theorem Has.net {w : World} {g o : Nat} {l : List Rt} (h : Has w g o l) {i : Nat} {r : Rt} (hr : l[i]? = some r) : w.rangeAt g (o + i * 19) r.net.vals := fun j v hj =>
  h i r hr j v (by simp only [Rt.vals]; rw [List.getElem?_append_left (List.getElem?_eq_some_iff.1 hj).1]; exact hj)
/-- A struct's load at any place; whatever guards it. -/
theorem wpList_load_at {P : Program} {ops : Array Oper} {rest : List Oper} {o : Oper} {a : Act} {w : World} {Q : Exit → Act → World → Prop} (hw : Region.wanted o (yielded ops a.tmps) = true) (ty : TypeId) (x : Operand) (ho : o.op = .load ty x)
    (g k : Nat) (vs : List Value) (d : TypeDesc) (hx : a.eval x = .pointer (some ⟨g, k, none⟩)) (hr : w.rangeAt g k vs) (hu : P.underlying ty = some d) (hd : d.isRow = true)
    (hi : (P.info? ty).map (·.size) = some vs.length) (h : wpList P ops Q rest (a.put o.dst (.agg vs.toArray)) w) : wpList P ops Q (o :: rest) a w :=
  BigFrame.wpList_want hw fun _ hK => wp_load_mid ty x ho g k hx vs d hr hu hd hi (hK _ _ h)
/-- A struct built of what is known. -/
theorem wpList_build_as {P : Program} {ops : Array Oper} {rest : List Oper} {o : Oper} {a : Act} {w : World} {Q : Exit → Act → World → Prop} (hg : o.guard = none) (t : TypeId) (parts : Array (Nat × Operand)) (ho : o.op = .build t parts)
    (vs : List (Nat × Value)) (hv : (parts.map fun (i, x) => (i, a.eval x)).toList = vs) (cells : Array Value) (hb : P.built t vs = some cells)
    (h : wpList P ops Q rest (a.put o.dst (.agg cells)) w) : wpList P ops Q (o :: rest) a w := by
  refine wpList_build hg t parts ho ?_ ?_
  · rw [hv, hb]; rfl
  · rw [hv, hb]; exact h
theorem wpList_build2 {P : Program} {ops : Array Oper} {rest : List Oper} {o : Oper} {a : Act} {w : World} {Q : Exit → Act → World → Prop} (hg : o.guard = none) (t : TypeId) (i j : Nat) (x y : Operand) (ho : o.op = .build t #[(i, x), (j, y)])
    (u v : Value) (hx : a.eval x = u) (hy : a.eval y = v) (cells : Array Value) (hb : P.built t [(i, u), (j, v)] = some cells)
    (h : wpList P ops Q rest (a.put o.dst (.agg cells)) w) : wpList P ops Q (o :: rest) a w :=
  wpList_build_as hg t _ ho [(i, u), (j, v)] (by simp [hx, hy]) cells hb h
theorem asz {a : Addr} (h : a.ok) : (Tryd.prog.info? 35).map (·.size) = some a.vals.length := by rw [avals_len h]; exact sz24
theorem rsz {r : Rt} (h : r.ok) : (Tryd.prog.info? 44).map (·.size) = some r.vals.length := by rw [vals_len h]; exact rsize
/-- A struct loaded at any place in a class of later worlds. -/
theorem quiet_at {P : Program} {w : World} {o : Oper} {a : Act} {K : Act → Prop} (ty : TypeId) (x : Operand) (ho : o.op = .load ty x) (g k : Nat) (vs : List Value) (d : TypeDesc)
    (hx : a.eval x = .pointer (some ⟨g, k, none⟩)) (hr : w.rangeAt g k vs) (hu : P.underlying ty = some d) (hd : d.isRow = true)
    (hi : (P.info? ty).map (·.size) = some vs.length) (hk : K (a.put o.dst (.agg vs.toArray))) : o.quiet P a (fun z => ∃ x : Later w, z = x.val) K := by
  refine ⟨.agg vs.toArray, ?_, hk⟩
  rintro _ ⟨z, rfl⟩
  have hr' : z.val.rangeAt g k vs := fun j v hv => Later.cell (hr j v hv) z
  unfold Oper.quietAt execOp
  simp only [ho, hx, Instr.loadAt, Instr.sureAddr, Sem.run_bind, Sem.run_pure, Result.andThen_ok, run_loadVar_mid z.val g k ty vs d hr' hu hd hi]
  exact ⟨rfl, rfl⟩
/-- The nets as keys. -/
def netC (r : Rt) : Array Value := (r.net.vals ++ [Value.int .i64 r.bits]).toArray
theorem keyL_int {q : IntKind} {n : Int} {t : TypeId} (d : Nat) (hu : Tryd.prog.underlying t = some (.int q)) (hw : (Lit.int q n).wf = true) : Tryd.prog.keyLits (d + 1) t [.int q n] = some [.int q n] := by
  unfold Program.keyLits; rw [hu]; simp [hw]
theorem byte_wf (x : UInt8) : (Lit.int .u8 (x.toNat : Int)).wf = true := by
  have := x.toNat_lt
  simp only [Lit.wf, IntKind.min, IntKind.max, IntKind.signed, IntKind.bits, Bool.and_eq_true, decide_eq_true_eq, Bool.false_eq_true, if_false]
  omega
theorem keyL_bytes (d : Nat) {l : List UInt8} (h : l.length = 16) : Tryd.prog.keyLits (d + 2) 33 (l.map by8) = some (l.map fun x => Lit.int .u8 x.toNat) := by
  have hc : Tryd.prog.cellsOf 33 = 16 := by kernel_rfl
  have hc1 : Tryd.prog.cellsOf 5 = 1 := by kernel_rfl
  have k1 : ∀ x : UInt8, Tryd.prog.keyLits (d + 1) 5 [by8 x] = some [Lit.int .u8 x.toNat] := fun x => keyL_int d Tryd.underlying5 (byte_wf x)
  obtain ⟨x0, x1, x2, x3, x4, x5, x6, x7, x8, x9, x10, x11, x12, x13, x14, x15, rfl⟩ := len16 h
  unfold Program.keyLits
  rw [Tryd.underlying33]
  simp [hc, hc1, k1, List.range_succ, List.range_zero, List.mapM_cons]
theorem keyL_addr (d : Nat) {a : Addr} (h : a.ok) (hv : (Lit.int .i64 a.v).wf = true) : Tryd.prog.keyLits (d + 3) 35 a.vals = some (.int .i64 a.v :: a.b.map fun x => Lit.int .u8 x.toNat) := by
  have c0 : Tryd.prog.cellsOf 35 = 17 := by kernel_rfl
  have c1 : Tryd.prog.cellsOf 3 = 1 := by kernel_rfl
  have c2 : Tryd.prog.cellsOf 33 = 16 := by kernel_rfl
  have k1 := keyL_int (d + 1) Tryd.underlying3 hv
  have k2 := keyL_bytes d h
  have ht : (a.b.map by8).take 16 = a.b.map by8 := List.take_of_length_le (by rw [List.length_map, h]; omega)
  unfold Program.keyLits
  rw [Tryd.underlying35]
  simp only [avals_len h, c0, true_and]
  simp [Addr.vals, c1, c2, k1, k2, ht, List.mapM_cons]
theorem netC_size {r : Rt} (h : r.ok) : (netC r).size = 18 := by simp [netC, avals_len h]
theorem keyL_net (d : Nat) {r : Rt} (h : r.wf) : Tryd.prog.keyLits (d + 4) 81 (netC r).toList = some (.int .i64 r.net.v :: ((r.net.b.map fun x => Lit.int .u8 x.toNat) ++ [.int .i64 r.bits])) := by
  have c0 : Tryd.prog.cellsOf 81 = 18 := by kernel_rfl
  have c1 : Tryd.prog.cellsOf 3 = 1 := by kernel_rfl
  have c2 : Tryd.prog.cellsOf 35 = 17 := by kernel_rfl
  have k1 := keyL_int (d + 2) Tryd.underlying3 h.bits
  have k2 := keyL_addr d h.ok h.v
  have hl := avals_len h.ok
  have h1 : (r.net.vals ++ [Value.int .i64 r.bits]).take 17 = r.net.vals := by rw [← hl]; exact List.take_left
  have h2 : (r.net.vals ++ [Value.int .i64 r.bits]).drop 17 = [Value.int .i64 r.bits] := by rw [← hl]; exact List.drop_left
  have h3 : (netC r).toList.length = 18 := by rw [Array.length_toList, netC_size h.ok]
  unfold Program.keyLits
  rw [Tryd.underlying81]
  simp only [h3, c0, true_and]
  simp [netC, c1, c2, k1, k2, h1, h2, List.mapM_cons]
def keyB (r : Rt) : List UInt8 := keyBytes (.int .i64 r.net.v :: ((r.net.b.map fun x => Lit.int .u8 x.toNat) ++ [.int .i64 r.bits]))
theorem key_net {r : Rt} (h : r.wf) : keyOf Tryd.prog 81 (.agg (netC r)) = some (.string (keyB r)) := by
  have hk : Tryd.prog.keyType 81 = true := by kernel_rfl
  have hc : Tryd.prog.cellsOf 81 = 18 := by kernel_rfl
  have hd : ∃ d, Tryd.prog.types.size + 1 = d + 4 := ⟨Tryd.prog.types.size - 3, by
    have : 4 ≤ Tryd.prog.types.size := of_decide_eq_true (by kernel_rfl)
    omega⟩
  obtain ⟨d, hd⟩ := hd
  have hf : (Value.agg (netC r)).formed Tryd.prog 81 = true := by
    unfold Value.formed
    rw [Tryd.underlying81]
    simp [netC_size h.ok, hc]
  unfold keyOf
  rw [Tryd.underlying81]
  simp only [hk, hf, Bool.and_self, if_true, hd]
  show ((Tryd.prog.keyLits (d + 4) 81 (netC r).toList).map _) = _
  rw [keyL_net d h]; rfl
theorem lawNet : Keyed Tryd.prog 81 := Keyed.of_law (deep_law_laid (by kernel_rfl) (m := 4) (by omega) (of_decide_eq_true (by kernel_rfl)) (by kernel_rfl) (by kernel_rfl))
theorem key_inj {r q : Rt} (hr : r.wf) (hq : q.wf) (h : keyB r = keyB q) : r.same q = true := by
  have e := keyOf_inj_deep (P := Tryd.prog) (m := 4) (k := 81) (by kernel_rfl) (by kernel_rfl) (key_net hr) (by rw [h]; exact key_net hq)
  injection e with e
  have e := congrArg Array.toList e
  simp only [netC] at e
  have hl := List.append_inj e (by rw [avals_len hr.ok, avals_len hq.ok])
  obtain ⟨h1, h2⟩ := hl
  injection h2 with h2
  injection h2 with _ h2
  unfold Addr.vals at h1
  injection h1 with h3 h4
  injection h3 with _ h3
  unfold Rt.same
  refine decide_eq_true ⟨?_, h2⟩
  have hb : r.net.b = q.net.b := by
    refine List.map_inj_right (f := by8) ?_ |>.1 h4
    intro x y hxy
    unfold by8 at hxy
    injection hxy with _ hxy
    exact UInt8.toNat_inj.1 (by omega)
  cases hx : r.net; cases hy : q.net
  rw [hx, hy] at h3 hb
  simp only at h3 hb
  rw [h3, hb]
theorem same_key {r q : Rt} (h : r.same q = true) : keyB r = keyB q := by
  unfold Rt.same at h
  have h := of_decide_eq_true h
  unfold keyB; rw [h.1, h.2]
end Go.Proofs.YtpaplobjmmpliaaDoor.Ad
