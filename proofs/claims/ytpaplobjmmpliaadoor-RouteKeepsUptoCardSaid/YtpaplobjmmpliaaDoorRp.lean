/- Contracts of the law's own net4 and known. Conditions: the library tables hold what its text lays. -/
import Derived.Test.YtpaplobjmmpliaaDoorRo
import Derived.Test.YtpaplobjmmpliaaDoorRq
namespace Go.Proofs.YtpaplobjmmpliaaDoor.Ad
set_option linter.unusedVariables false
set_option linter.unusedSimpArgs false
open Go.RowKit Go.Maps W
def rt4 (a b : UInt8) (bits link : Int) : Rt := ⟨⟨4, [a, b, 0, 0, 0, 0, 0, 0, 0, 0, 0, 0, 0, 0, 0, 0]⟩, bits, link⟩
theorem rt4_ok (a b : UInt8) (bits link : Int) : (rt4 a b bits link).ok := rfl
theorem rt4_wf (a b : UInt8) {bits link : Int} (h1 : 0 ≤ bits ∧ bits ≤ 100) (h2 : 0 ≤ link ∧ link ≤ 100) : (rt4 a b bits link).wf := ⟨rfl, by show (Lit.int .i64 4).wf = true; decide, i64_wf (by show _ ≤ bits; omega) (by show bits ≤ _; omega), i64_wf (by show _ ≤ link; omega) (by show link ≤ _; omega)⟩
set_option maxRecDepth 100000 in
set_option maxHeartbeats 4000000 in
theorem net4_calls (a b : UInt8) (x y : Int) (hx : (a.toNat : Int) = x) (hy : (b.toNat : Int) = y) (bits link : Int) (w : World) : Calls Tryd.prog 22 #[.int .u8 x, .int .u8 y, .int .i64 bits, .int .i64 link] w fun e w' => e = .returned (.agg (rt4 a b bits link).cells) ∧ Below w.heap.size w w' := by
  have HC : Hid ((rt4 a b bits link).cells = Rt.cells ⟨⟨4, [a, b, 0, 0, 0, 0, 0, 0, 0, 0, 0, 0, 0, 0, 0, 0]⟩, bits, link⟩) := Lib.hid rfl
  have hm : (⟨4, [a, b, 0, 0, 0, 0, 0, 0, 0, 0, 0, 0, 0, 0, 0, 0]⟩ : Addr).ok := rfl
  obtain ⟨m, hmm⟩ : ∃ m, (⟨4, [a, b, 0, 0, 0, 0, 0, 0, 0, 0, 0, 0, 0, 0, 0, 0]⟩ : Addr) = m := ⟨_, rfl⟩
  have HK : Hid (m.cells = #[.int .i64 4, .int .u8 x, .int .u8 y, .int .u8 0, .int .u8 0, .int .u8 0, .int .u8 0, .int .u8 0, .int .u8 0, .int .u8 0, .int .u8 0, .int .u8 0, .int .u8 0, .int .u8 0, .int .u8 0, .int .u8 0, .int .u8 0]) := Lib.hid (by rw [← hmm, ← hx, ← hy]; rfl)
  rw [hmm] at hm HC
  have hb1 : Tryd.prog.built 33 [(0, .int .u8 x), (1, .int .u8 y)] = some #[.int .u8 x, .int .u8 y, .int .u8 0, .int .u8 0, .int .u8 0, .int .u8 0, .int .u8 0, .int .u8 0, .int .u8 0, .int .u8 0, .int .u8 0, .int .u8 0, .int .u8 0, .int .u8 0, .int .u8 0, .int .u8 0] := by kernel_rfl
  have hb2 : Tryd.prog.built 35 [(0, .int .i64 4), (1, .agg #[.int .u8 x, .int .u8 y, .int .u8 0, .int .u8 0, .int .u8 0, .int .u8 0, .int .u8 0, .int .u8 0, .int .u8 0, .int .u8 0, .int .u8 0, .int .u8 0, .int .u8 0, .int .u8 0, .int .u8 0, .int .u8 0])] = some m.cells := by rw [HK.out]; kernel_rfl
  have hr : (⟨m, bits, link⟩ : Rt).ok := hm
  clear hmm hx hy
  go_enter Tryd.func22, Tryd.ntmps22
  go_upto_region 1 with fail
  refine wp_named fun W hW => ?_
  obtain ⟨bk, BW, sW⟩ := box1 (cs := zeroRt.cells) hW
  clear hW sW
  go_wp2_with (first | (refine wpList_build2 rfl 33 0 1 _ _ rfl (.int .u8 x) (.int .u8 y) rfl rfl _ hb1 ?_) | (refine wpList_build2 rfl 35 0 1 _ _ rfl (.int .i64 4) (.agg #[.int .u8 x, .int .u8 y, .int .u8 0, .int .u8 0, .int .u8 0, .int .u8 0, .int .u8 0, .int .u8 0, .int .u8 0, .int .u8 0, .int .u8 0, .int .u8 0, .int .u8 0, .int .u8 0, .int .u8 0, .int .u8 0]) rfl rfl _ hb2 ?_) | (refine wpList_build3 rfl 44 0 1 2 _ _ _ rfl (.agg m.cells) (.int .i64 bits) (.int .i64 link) rfl rfl rfl (Rt.cells ⟨m, bits, link⟩) (built_rt hm bits link) ?_) | (refine wpList_store_blk rfl 44 _ _ rfl w.heap.size 44 zeroRt.cells (Rt.cells ⟨m, bits, link⟩) rfl rfl bk.out (by rw [rcs hr, rcs zeroRt_ok]) (rszc hr) (rone _) ?_; intro W9 P9))
  refine bodyPost_ret (v := .agg (Rt.cells ⟨m, bits, link⟩)) (by exact results_cell_row (fn := Tryd.f22) rfl _ _ w.heap.size 44 _ (0, 0) _ rfl P9.blk Tryd.underlying44 rfl (rszc hr)) rfl ⟨by rw [HC.out], P9.below BW.out (Nat.le_refl _) BW.out.size⟩
/-- The routes of the law's own examples. -/
def k3 : List Rt := [rt4 10 1 16 2, rt4 0 0 0 0, rt4 10 0 8 1]
theorem k3_wf : ∀ r ∈ k3, r.wf := fun r hr => by
  simp only [k3, List.mem_cons, List.not_mem_nil, or_false] at hr
  rcases hr with rfl | rfl | rfl <;> exact rt4_wf _ _ (by omega) (by omega)
theorem k3_may : mayV k3 = true := by decide +kernel
theorem k1_wf : ∀ r ∈ [rt4 10 0 8 1], r.wf := fun r hr => by
  obtain rfl := List.mem_singleton.1 hr; exact rt4_wf _ _ (by omega) (by omega)
theorem sortV_wf {l : List Rt} (hl : ∀ r ∈ l, r.wf) : ∀ r ∈ sortV l, r.wf := fun r hr => by
  unfold sortV at hr
  obtain ⟨x, _, rfl⟩ := List.mem_map.1 hr
  exact hl _ x.property
theorem k3_find1 : findV (sortV k3) (⟨4, [10, 1, 255, 255, 0, 0, 0, 0, 0, 0, 0, 0, 0, 0, 0, 0]⟩ : Addr) = (2, 0) := (find_sort (fun r hr => (k3_wf r hr).ok) (may_good k3_may) _).trans (by decide +kernel)
theorem k3_find2 : findV (sortV k3) (⟨4, [10, 2, 0, 1, 0, 0, 0, 0, 0, 0, 0, 0, 0, 0, 0, 0]⟩ : Addr) = (1, 0) := (find_sort (fun r hr => (k3_wf r hr).ok) (may_good k3_may) _).trans (by decide +kernel)
theorem k3_find3 : findV (sortV k3) (⟨6, [0, 0, 0, 0, 0, 0, 0, 0, 0, 0, 0, 0, 0, 0, 0, 0]⟩ : Addr) = (0, 210) := (find_sort (fun r hr => (k3_wf r hr).ok) (may_good k3_may) _).trans (by decide +kernel)
theorem k3_text : parseV [49, 48, 46, 48, 46, 48, 46, 48, 47, 56, 32, 49, 10] = ([rt4 10 0 8 1], 0) := by decide +kernel
theorem fill_three : Instr.fill (fun i => some (i * 19, 19)) ((Array.range (3 * 19)).map ((Value.agg zeroRt.cells).cells[· % (Value.agg zeroRt.cells).cells.size]!)) [(0, .agg (rt4 10 1 16 2).cells), (1, .agg (rt4 0 0 0 0).cells), (2, .agg (rt4 10 0 8 1).cells)] = some (flat k3).toArray := by kernel_rfl
theorem wpList_slice3 {ops : Array Oper} {rest : List Oper} {o : Oper} {a : Act} {w : World} {Q : Exit → Act → World → Prop} (hg : o.guard = none) (x y z : Operand) (ho : o.op = .buildSlice 22 3 #[(0, x), (1, y), (2, z)])
    (hx : a.eval x = .agg (rt4 10 1 16 2).cells) (hy : a.eval y = .agg (rt4 0 0 0 0).cells) (hz : a.eval z = .agg (rt4 10 0 8 1).cells)
    (h : wpList Tryd.prog ops Q rest (a.put o.dst (.slice (some ⟨w.heap.size, 0, none⟩) 3 3)) (w.alloc (.cells (flat k3).toArray 44))) : wpList Tryd.prog ops Q (o :: rest) a w := by
  obtain ⟨i0, hi, hz0, hz1, hz2⟩ := info_parts (show (Tryd.prog.info? 44).map (fun i => (i.zero, i.size, i.bytes)) = some (some (.agg zeroRt.cells), 19, 40) by kernel_rfl)
  refine wpList_buildSlice hg 22 44 3 _ ho (flat k3).toArray i0 _ Tryd.underlying22 hi hz0 (by rw [hz1]; omega) (by rw [hz1]; omega) ?_ h
  rw [hz1]
  have e : (Array.map (fun (x : Nat × Operand) => match x with | (i, x) => (i, a.eval x)) #[(0, x), (1, y), (2, z)]).toList = [(0, .agg (rt4 10 1 16 2).cells), (1, .agg (rt4 0 0 0 0).cells), (2, .agg (rt4 10 0 8 1).cells)] := by simp [hx, hy, hz]
  have := fill_three
  rw [← e] at this
  exact this
theorem has_new {l : List Rt} (hl : ∀ r ∈ l, r.ok) (w : World) : Has (w.alloc (.cells (flat l).toArray 44)) w.heap.size 0 l := cells_has hl fun j u hu => by
  rw [(Blk.new w 44 (flat l).toArray).cell, Nat.zero_add]; simpa using hu
theorem has_one {r : Rt} (w : World) : Has (w.alloc (.cells r.cells 44)) w.heap.size 0 [r] := by
  intro i q hq j v hv
  cases i with
  | zero =>
    injection hq with hq; subst hq
    rw [Nat.zero_mul, Nat.zero_add, (Blk.new w 44 r.cells).cell]
    simpa [Rt.cells] using hv
  | succ i => cases hq
theorem Tab.mono {B B' : Nat} {w : World} {t : Value} {s : List Rt} (h : Tab B w t s) (hb : B' ≤ B) : Tab B' w t s := by
  obtain ⟨g, p, c, h1, h2, h3, h4, h5⟩ := h.is
  exact ⟨g, p, c, h1, h2, h3, Nat.le_trans hb h4, fun a ha => Nat.le_trans hb (h5 a ha)⟩
theorem Tab.ptr {B : Nat} {w : World} {t : Value} {s : List Rt} (h : Tab B w t s) : ∃ g, B ≤ g ∧ t = .pointer (some ⟨g, 0, none⟩) := by
  obtain ⟨g, p, c, h1, h2, h3, h4, h5⟩ := h.is
  exact ⟨g, h4, h1⟩
/-- What the world of 'known' holds. -/
structure Kn (w : World) (t : Value) (W : World) : Prop where
  below : Below w.heap.size w W
  gl : Gl W
  tab : Tab w.heap.size W t (sortV k3)
theorem Kn.later {w W W' : World} {t : Value} (h : Kn w t W) (hb : Below W.heap.size W W') : Kn w t W' := ⟨h.below.trans (hb.mono h.below.size), h.gl.later hb, h.tab.later hb⟩
theorem known_f1 (B : Nat) (t : Value) (w : World) (ht : Tab B w t (sortV k3)) : Calls Tryd.prog 13 #[t, .agg #[.int .i64 4, .int .u8 10, .int .u8 1, .int .u8 255, .int .u8 255, .int .u8 0, .int .u8 0, .int .u8 0, .int .u8 0, .int .u8 0, .int .u8 0, .int .u8 0, .int .u8 0, .int .u8 0, .int .u8 0, .int .u8 0, .int .u8 0]] w fun e w' => e = .returned (.tuple #[.int .i64 2, .int .i64 0]) ∧ Below w.heap.size w w' := by
  have h := find_calls (sortV_wf k3_wf) (by rw [sortV_len]; decide) B t w ht (⟨4, [10, 1, 255, 255, 0, 0, 0, 0, 0, 0, 0, 0, 0, 0, 0, 0]⟩ : Addr) rfl
  rw [k3_find1] at h
  exact h
theorem known_f2 (B : Nat) (t : Value) (w : World) (ht : Tab B w t (sortV k3)) : Calls Tryd.prog 13 #[t, .agg #[.int .i64 4, .int .u8 10, .int .u8 2, .int .u8 0, .int .u8 1, .int .u8 0, .int .u8 0, .int .u8 0, .int .u8 0, .int .u8 0, .int .u8 0, .int .u8 0, .int .u8 0, .int .u8 0, .int .u8 0, .int .u8 0, .int .u8 0]] w fun e w' => e = .returned (.tuple #[.int .i64 1, .int .i64 0]) ∧ Below w.heap.size w w' := by
  have h := find_calls (sortV_wf k3_wf) (by rw [sortV_len]; decide) B t w ht (⟨4, [10, 2, 0, 1, 0, 0, 0, 0, 0, 0, 0, 0, 0, 0, 0, 0]⟩ : Addr) rfl
  rw [k3_find2] at h
  exact h
theorem known_f3 (B : Nat) (t : Value) (w : World) (ht : Tab B w t (sortV k3)) : Calls Tryd.prog 13 #[t, .agg #[.int .i64 6, .int .u8 0, .int .u8 0, .int .u8 0, .int .u8 0, .int .u8 0, .int .u8 0, .int .u8 0, .int .u8 0, .int .u8 0, .int .u8 0, .int .u8 0, .int .u8 0, .int .u8 0, .int .u8 0, .int .u8 0, .int .u8 0]] w fun e w' => e = .returned (.tuple #[.int .i64 0, .int .i64 210]) ∧ Below w.heap.size w w' := by
  have h := find_calls (sortV_wf k3_wf) (by rw [sortV_len]; decide) B t w ht (⟨6, [0, 0, 0, 0, 0, 0, 0, 0, 0, 0, 0, 0, 0, 0, 0, 0]⟩ : Addr) rfl
  rw [k3_find3] at h
  exact h
theorem wpList_build4 {P : Program} {ops : Array Oper} {rest : List Oper} {o : Oper} {a : Act} {w : World} {Q : Exit → Act → World → Prop} (hg : o.guard = none) (t : TypeId) (i j k m : Nat) (x y z u : Operand) (ho : o.op = .build t #[(i, x), (j, y), (k, z), (m, u)])
    (v1 v2 v3 v4 : Value) (hx : a.eval x = v1) (hy : a.eval y = v2) (hz : a.eval z = v3) (hu : a.eval u = v4) (cells : Array Value) (hb : P.built t [(i, v1), (j, v2), (k, v3), (m, v4)] = some cells)
    (h : wpList P ops Q rest (a.put o.dst (.agg cells)) w) : wpList P ops Q (o :: rest) a w :=
  wpList_build_as hg t _ ho [(i, v1), (j, v2), (k, v3), (m, v4)] (by simp [hx, hy, hz, hu]) cells hb h
set_option maxRecDepth 100000 in
set_option maxHeartbeats 4000000 in
theorem known_calls (w : World) (hg : Gl w) : Calls Tryd.prog 11 #[] w fun e w' => e = .returned (.bool true) ∧ Below w.heap.size w w' := by
  have HG := Lib.hid hg
  have N1 : Hid (∀ w, Calls Tryd.prog 22 #[.int .u8 10, .int .u8 1, .int .i64 16, .int .i64 2] w fun e w' => e = .returned (.agg (rt4 10 1 16 2).cells) ∧ Below w.heap.size w w') := Lib.hid fun w => net4_calls 10 1 10 1 rfl rfl 16 2 w
  have N2 : Hid (∀ w, Calls Tryd.prog 22 #[.int .u8 0, .int .u8 0, .int .i64 0, .int .i64 0] w fun e w' => e = .returned (.agg (rt4 0 0 0 0).cells) ∧ Below w.heap.size w w') := Lib.hid fun w => net4_calls 0 0 0 0 rfl rfl 0 0 w
  have N3 : Hid (∀ w, Calls Tryd.prog 22 #[.int .u8 10, .int .u8 0, .int .i64 8, .int .i64 1] w fun e w' => e = .returned (.agg (rt4 10 0 8 1).cells) ∧ Below w.heap.size w w') := Lib.hid fun w => net4_calls 10 0 10 0 rfl rfl 8 1 w
  obtain ⟨v1, hv1⟩ : ∃ v, (rt4 10 1 16 2).cells = v := ⟨_, rfl⟩
  obtain ⟨v2, hv2⟩ : ∃ v, (rt4 0 0 0 0).cells = v := ⟨_, rfl⟩
  obtain ⟨v3, hv3⟩ : ∃ v, (rt4 10 0 8 1).cells = v := ⟨_, rfl⟩
  have H1 := Lib.hid hv1
  have H2 := Lib.hid hv2
  have H3 := Lib.hid hv3
  rw [hv1] at N1
  rw [hv2] at N2
  rw [hv3] at N3
  clear hg hv1 hv2 hv3
  have F1 := Lib.hid (known_f1 w.heap.size)
  have F2 := Lib.hid (known_f2 w.heap.size)
  have F3 := Lib.hid (known_f3 w.heap.size)
  have HB0 := Lib.hid (Below.refl w.heap.size w)
  go_enter Tryd.func11, Tryd.ntmps11
  go_upto_region 2 with (first | (go_at_call 22; (first | (with_reducible refine (N1.out _).mono ?_) | (with_reducible refine (N2.out _).mono ?_) | (with_reducible refine (N3.out _).mono ?_)); rintro e W9 ⟨rfl, hB9⟩; have HB0 := keep HB0 hB9; clear hB9) | (refine wpList_slice3 rfl _ _ _ rfl (by exact congrArg Value.agg H1.out.symm) (by exact congrArg Value.agg H2.out.symm) (by exact congrArg Value.agg H3.out.symm) ?_) | (go_at_call 9; refine (new_calls k3_wf k3_may (some ⟨_, 0, none⟩) 3 _ (.inr ⟨_, 0, rfl, (by simp), has_new (fun r hr => (k3_wf r hr).ok) _⟩)).mono ?_; rintro e W3 ⟨t, rfl, hT, hB3⟩))
  have HBW : Below w.heap.size w W3 := (HB0.out.alloc HB0.out.size _).trans (hB3.mono (by have := HB0.out.size; simp; omega))
  have hT2 : Tab w.heap.size W3 t (sortV k3) := hT.mono (by have := HB0.out.size; simp; omega)
  obtain ⟨g, hg, rfl⟩ := hT2.ptr
  have HA : Hid (Kn w (.pointer (some ⟨g, 0, none⟩)) W3) := Lib.hid ⟨HBW, HG.out.later HBW, hT2⟩
  clear HBW hT2 hT hB3 HB0 hg
  go_upto_region 7 with (first | (go_at_call 13; (first | (with_reducible refine (F1.out _ _ HA.out.tab).mono ?_) | (with_reducible refine (F2.out _ _ HA.out.tab).mono ?_) | (with_reducible refine (F3.out _ _ HA.out.tab).mono ?_)); rintro e W9 ⟨rfl, hB9⟩; have HA := Lib.hid (HA.out.later hB9); clear hB9) | (refine wpList_build4 rfl 33 0 1 2 3 _ _ _ _ rfl (.int .u8 10) (.int .u8 1) (.int .u8 255) (.int .u8 255) rfl rfl rfl rfl #[.int .u8 10, .int .u8 1, .int .u8 255, .int .u8 255, .int .u8 0, .int .u8 0, .int .u8 0, .int .u8 0, .int .u8 0, .int .u8 0, .int .u8 0, .int .u8 0, .int .u8 0, .int .u8 0, .int .u8 0, .int .u8 0] (by kernel_rfl) ?_) | (refine wpList_build4 rfl 33 0 1 2 3 _ _ _ _ rfl (.int .u8 10) (.int .u8 2) (.int .u8 0) (.int .u8 1) rfl rfl rfl rfl #[.int .u8 10, .int .u8 2, .int .u8 0, .int .u8 1, .int .u8 0, .int .u8 0, .int .u8 0, .int .u8 0, .int .u8 0, .int .u8 0, .int .u8 0, .int .u8 0, .int .u8 0, .int .u8 0, .int .u8 0, .int .u8 0] (by kernel_rfl) ?_) | (refine wpList_build2 rfl 35 0 1 _ _ rfl (.int .i64 4) (.agg #[.int .u8 10, .int .u8 1, .int .u8 255, .int .u8 255, .int .u8 0, .int .u8 0, .int .u8 0, .int .u8 0, .int .u8 0, .int .u8 0, .int .u8 0, .int .u8 0, .int .u8 0, .int .u8 0, .int .u8 0, .int .u8 0]) rfl rfl #[.int .i64 4, .int .u8 10, .int .u8 1, .int .u8 255, .int .u8 255, .int .u8 0, .int .u8 0, .int .u8 0, .int .u8 0, .int .u8 0, .int .u8 0, .int .u8 0, .int .u8 0, .int .u8 0, .int .u8 0, .int .u8 0, .int .u8 0] (by kernel_rfl) ?_) | (refine wpList_build2 rfl 35 0 1 _ _ rfl (.int .i64 4) (.agg #[.int .u8 10, .int .u8 2, .int .u8 0, .int .u8 1, .int .u8 0, .int .u8 0, .int .u8 0, .int .u8 0, .int .u8 0, .int .u8 0, .int .u8 0, .int .u8 0, .int .u8 0, .int .u8 0, .int .u8 0, .int .u8 0]) rfl rfl #[.int .i64 4, .int .u8 10, .int .u8 2, .int .u8 0, .int .u8 1, .int .u8 0, .int .u8 0, .int .u8 0, .int .u8 0, .int .u8 0, .int .u8 0, .int .u8 0, .int .u8 0, .int .u8 0, .int .u8 0, .int .u8 0, .int .u8 0] (by kernel_rfl) ?_) | (refine wpList_build1 rfl 35 0 _ rfl (.int .i64 6) rfl #[.int .i64 6, .int .u8 0, .int .u8 0, .int .u8 0, .int .u8 0, .int .u8 0, .int .u8 0, .int .u8 0, .int .u8 0, .int .u8 0, .int .u8 0, .int .u8 0, .int .u8 0, .int .u8 0, .int .u8 0, .int .u8 0, .int .u8 0] (by kernel_rfl) ?_))
  have P1 : Hid (∀ w, Gl w → Calls Tryd.prog 18 #[.string ⟨#[49, 48, 46, 48, 46, 48, 46, 48, 47, 56, 32, 49, 10]⟩] w fun e w' => ∃ p c, e = .returned (.tuple #[.slice p 1 c, .int .i64 0]) ∧ AtS w' p [rt4 10 0 8 1] ∧ Below w.heap.size w w') := Lib.hid fun w hg => by
    have h := rparse21_calls [49, 48, 46, 48, 46, 48, 46, 48, 47, 56, 32, 49, 10] (by decide) w hg
    rw [k3_text] at h
    exact h.mono fun e w' ⟨p, c, h1, h2, _, h3⟩ => ⟨p, c, h1, h2, h3⟩
  go_upto_region 8 with (go_at_call 18; refine (P1.out _ HA.out.gl).mono ?_; rintro e W4 ⟨p, c, rfl, hP, hB4⟩)
  have HA := Lib.hid (HA.out.later hB4)
  have HPP := Lib.hid hP
  have A1 : Hid (∀ w2, Kn w (.pointer (some ⟨g, 0, none⟩)) w2 → Calls Tryd.prog 16 #[.pointer (some ⟨g, 0, none⟩)] w2 fun e w' => ∃ p c, e = .returned (.slice p 3 c) ∧ Below w2.heap.size w2 w') := Lib.hid fun w2 hk => by
    have h := all_calls (sortV_wf k3_wf) (by rw [sortV_len]; decide) w.heap.size _ w2 hk.tab
    rw [sortV_len] at h
    exact h.mono fun e w' ⟨p, c, h1, _, _, h3⟩ => ⟨p, c, h1, h3⟩
  clear hP hB4 F1 F2 F3 P1 N1 N2
  go_wp2_with (first | (go_at_call 22; refine (N3.out _).mono ?_; rintro e W9 ⟨rfl, hB9⟩; have HA := Lib.hid (HA.out.later hB9); have HPP := Lib.hid (HPP.out.later hB9); clear hB9) | (refine wpList_slice1 rfl _ rfl (rt4 10 0 8 1) (rt4_ok _ _ _ _) (by exact congrArg Value.agg H3.out.symm) ?_) | (go_at_call 15; refine (same_calls k1_wf k1_wf (by decide) _ c _ 1 _ (HPP.out.later ((Below.refl _ _).alloc (Nat.le_refl _) _)).at (.inr ⟨_, 0, rfl, (by simp), has_one _⟩)).mono ?_; rintro e W10 ⟨rfl, hB10⟩; have HA := Lib.hid ((HA.out.later ((Below.refl _ _).alloc (Nat.le_refl _) _)).later hB10); clear hB10) | (go_at_call 16; refine (A1.out _ HA.out).mono ?_; rintro e W11 ⟨p2, c2, rfl, hB11⟩; have HA := Lib.hid (HA.out.later hB11); clear hB11))
  go_ret
  exact ⟨rfl, HA.out.below⟩
end Go.Proofs.YtpaplobjmmpliaaDoor.Ad
