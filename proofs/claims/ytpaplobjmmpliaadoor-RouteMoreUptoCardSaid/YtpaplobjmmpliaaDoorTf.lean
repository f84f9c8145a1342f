/- The walk of RouteMore. Conditions: addresses have sixteen bytes, numbers lie within 64 bits, at most 1048576 routes and destinations; the library tables hold what its text lays. -/
import Derived.Test.YtpaplobjmmpliaaDoorRn
import Derived.Test.YtpaplobjmmpliaaDoorRk
import Derived.Deep.AppendLies
import Derived.Shelf.Abstract
import Derived.Test.YtpaplobjmmpliaaDoorTa
import Derived.Test.YtpaplobjmmpliaaDoorTb
import Derived.Test.YtpaplobjmmpliaaDoorRt
namespace Go.Proofs.YtpaplobjmmpliaaDoor.Ad
set_option linter.unusedVariables false
set_option linter.unusedSimpArgs false
open Go.RowKit Go.Maps W
set_option maxRecDepth 100000 in
set_option maxHeartbeats 4000000 in
theorem own_row {l : List Rt} (hl : ∀ r ∈ l, r.ok) (hb : l.length ≤ 1048576) (p : Option Go.Addr) (c : Nat) (w : World) (hp : At w p l) (hn : p = none → c = 0) : Calls Tryd.prog 10 #[.slice p l.length c] w fun e w' =>
    ∃ v, e = .returned v ∧ w'.ownsRow w.heap.size 44 19 v l.length (flat l) ∧ Below w.heap.size w w' := by
  obtain ⟨i0, hi, hz0, hz1, hz2⟩ := info_parts (show (Tryd.prog.info? 44).map (fun i => (i.zero, i.size, i.bytes)) = some (some (.agg zeroRt.cells), 19, 40) by kernel_rfl)
  have HC : Hid (∀ ad, p = some ad → ∀ j u, (flat l)[j]? = some u → w.cell? (ad.add j) = some u) := Lib.hid fun ad had j u hu => by
    rcases hp with h | ⟨g, o, h1, h2, h3⟩
    · subst h; cases hu
    · rw [h1] at had; injection had with had; subst had
      rw [Addr.add_lit]
      exact has_cells hl h3 j u hu
  have HF := Lib.hid (flat_len hl)
  have HL := Lib.hid hl
  cases p with
  | none =>
    obtain rfl := hn rfl
    obtain rfl : l = [] := by
      rcases hp with h | ⟨g, o, h1, _⟩
      · exact h
      · cases h1
    go_enter Tryd.func10, Tryd.ntmps10
    go_wp2_with (at_builtin; refine wpList_append_own_none rfl _ _ 22 rfl w.heap.size 44 i0 19 Tryd.underlying22 hi _ 0 [] rfl (World.ownsRow_nil _ _ _ _) rfl ?_)
    go_ret
    exact ⟨_, rfl, World.ownsRow_nil _ _ _ _, Below.refl _ _⟩
  | some ad =>
    obtain ⟨n, hnn⟩ : ∃ n, l.length = n := ⟨_, rfl⟩
    rw [hnn] at HF hb ⊢
    have HN := Lib.hid hnn
    clear hp hl hn hnn
    go_enter Tryd.func10, Tryd.ntmps10
    go_wp2_with (at_builtin; refine wpList_append_own _ rfl _ _ 22 rfl w.heap.size 44 i0 _ 19 40 Tryd.underlying22 hi hz0 hz1 hz2 (by rfl) (by omega) _ 0 [] rfl (World.ownsRow_nil _ _ _ _) ad n c (flat l) rfl HF.out (HC.out ad rfl) (flat_one l) (by unfold maxLen; omega) (by omega) (Nat.le_refl _) ?_; intro v' w1 hown hgrow hnil)
    go_ret
    exact ⟨v', rfl, by simpa using hown, (Below.refl _ w).grown hgrow (Nat.le_refl _) (by intro k hk; cases hk)⟩
def errV (m : Bool) : Int := if m = true then 0 else 1
/-- New, either way. -/
theorem new_any {l : List Rt} (hl : ∀ r ∈ l, r.wf) (p : Option Go.Addr) (c : Nat) (w : World) (hp : AtS w p l) : Calls Tryd.prog 9 #[.slice p l.length c] w fun e w' =>
    ∃ t, e = .returned (.tuple #[t, .int .i64 (errV (mayV l))]) ∧ (mayV l = true → Tab w.heap.size w' t (sortV l)) ∧ (mayV l = false → t = .pointer none) ∧ Below w.heap.size w w' := by
  cases hm : mayV l
  · refine (new_no hl hm p c w hp.at).mono ?_
    rintro e w' ⟨rfl, hB⟩
    exact ⟨_, rfl, (fun h => by cases h), (fun _ => rfl), hB⟩
  · refine (new_calls hl hm p c w hp).mono ?_
    rintro e w' ⟨t, rfl, hT, hB⟩
    exact ⟨t, rfl, (fun _ => hT), (fun h => by cases h), hB⟩
/-- One operation of a region that draws its order: the only one that may come up. -/
theorem any_step {P : Program} {md : Region.Mode} {ops : Array Oper} {Q : Exit → Act → World → Prop} {fuel : Nat} {listed : Array Bool} {a : Act} {w : World} (i : Nat) {o : Oper} (hr : Region.ready md ops listed = [i]) (ho : ops[i]? = some o) (hg : o.guard = none)
    (h : Oper.wp P o a w (wpAny P md ops Q fuel (listed.setIfInBounds i true)) Q) : wpAny P md ops Q (fuel + 1) listed a w :=
  wpAny_ready hr (by simp) (AllReady.cons ho (fun K hK => by rw [if_pos (by simp [Region.wanted, hg])]; exact Oper.wp_mono hK h) AllReady.nil)
/-- .. or one of two. -/
theorem any_step2 {P : Program} {md : Region.Mode} {ops : Array Oper} {Q : Exit → Act → World → Prop} {fuel : Nat} {listed : Array Bool} {a : Act} {w : World} (i j : Nat) {o p : Oper} (hr : Region.ready md ops listed = [i, j]) (ho : ops[i]? = some o) (hp : ops[j]? = some p) (hg : o.guard = none) (hgp : p.guard = none)
    (h : Oper.wp P o a w (wpAny P md ops Q fuel (listed.setIfInBounds i true)) Q) (h2 : Oper.wp P p a w (wpAny P md ops Q fuel (listed.setIfInBounds j true)) Q) : wpAny P md ops Q (fuel + 1) listed a w :=
  wpAny_ready hr (by simp) (AllReady.cons ho (fun K hK => by rw [if_pos (by simp [Region.wanted, hg])]; exact Oper.wp_mono hK h)
    (AllReady.cons hp (fun K hK => by rw [if_pos (by simp [Region.wanted, hgp])]; exact Oper.wp_mono hK h2) AllReady.nil))
theorem wp_slice1 {o : Oper} {a : Act} {w : World} {K : Act → World → Prop} {Q : Exit → Act → World → Prop} (x : Operand) (ho : o.op = .buildSlice 22 1 #[(0, x)])
    (r : Rt) (hr : r.ok) (hx : a.eval x = .agg r.vals.toArray)
    (h : K (a.put o.dst (.slice (some ⟨w.heap.size, 0, none⟩) 1 1)) (w.alloc (.cells r.cells 44))) : o.wp Tryd.prog a w K Q := by
  obtain ⟨i0, hi, hz0, hz1, hz2⟩ := info_parts (show (Tryd.prog.info? 44).map (fun i => (i.zero, i.size, i.bytes)) = some (some (.agg zeroRt.cells), 19, 40) by kernel_rfl)
  refine wp_buildSlice 22 44 1 _ ho r.cells i0 _ Tryd.underlying22 hi hz0 (by rw [hz1]; omega) (by rw [hz1]; omega) ?_ h
  rw [hz1]
  have e : (Array.map (fun (x : Nat × Operand) => match x with | (i, x) => (i, a.eval x)) #[(0, x)]).toList = [(0, .agg r.vals.toArray)] := by simp [hx]
  have := fill_rt hr
  rw [← e] at this
  exact this
theorem full_at {w : World} {g : Nat} {r : Rt} (h : Blk w g 44 r.cells) : w.rangeAt g 0 r.vals := fun j v hj => by
  rw [Nat.zero_add, h.cell]; simpa [Rt.cells] using hj
theorem own_lat {w w' : World} {B : Nat} {E : TypeId} {size : Nat} {v : Value} {n : Nat} {xs : List Value} (h : w.ownsRow B E size v n xs) (hb : Below w.heap.size w w') : w'.ownsRow B E size v n xs := by
  rcases h with ⟨h1, h2⟩
  refine ⟨h1, ?_⟩
  rcases h2 with h2 | ⟨g, cap, cur, e, hB, hg, r⟩
  · exact .inl h2
  · exact .inr ⟨g, cap, cur, e, hB, (hb.block g (Array.getElem?_eq_some_iff.1 hg).1).trans hg, r⟩
/-- A call of a Go function as one such step. -/
theorem wp_enter {P : Program} {o : Oper} {a : Act} {w : World} {K : Act → World → Prop} {Q : Exit → Act → World → Prop} (f : FuncId) (args : Array Value) (hrun : (execOp a.eval o).run P w = .ok (.enter f args) w)
    (h : Calls P f args w fun e w' => ∃ v, e = .returned v ∧ K (a.put o.dst v) w') : o.wp P a w K Q := by
  unfold Oper.wp
  rw [hrun, Oper.upon_enter]
  refine h.mono fun e w' ⟨v, he, hk⟩ => ?_
  subst he; exact hk
/-- What the law's world holds: both tables, the one route more. -/
structure Fm (w : World) (x : Rt) (t u : Value) (s s2 : List Rt) (W : World) : Prop where
  below : Below w.heap.size w W
  gl : Gl W
  one : Tab w.heap.size W t s
  two : Tab w.heap.size W u s2
  box : Blk W w.heap.size 44 x.cells
theorem Fm.later {w W W' : World} {x : Rt} {t u : Value} {s s2 : List Rt} (h : Fm w x t u s s2 W) (hb : Below W.heap.size W W') : Fm w x t u s s2 W' := ⟨h.below.trans (hb.mono h.below.size), h.gl.later hb, h.one.later hb, h.two.later hb, h.box.later hb h.box.lt⟩
/-- What a table's making left: a table, or none. -/
structure AtX (m : Bool) (w W : World) (t : Value) (l : List Rt) : Prop where
  yes : m = true → Tab w.heap.size W t (sortV l)
  no : m = false → t = .pointer none
theorem wpAny_named {P : Program} {md : Region.Mode} {ops : Array Oper} {Q : Exit → Act → World → Prop} {n : Nat} {b : Array Bool} {a : Act} {w : World} {B : Nat} {W0 : World} (h0 : Below B W0 w) (h : ∀ W, Below B W0 W → wpAny P md ops Q n b a W) : wpAny P md ops Q n b a w := h w h0
set_option maxRecDepth 100000 in
set_option maxHeartbeats 4000000 in
theorem more_calls {l : List Rt} (hl : ∀ r ∈ l, r.wf) {x : Rt} (hx : x.wf) {ds : List Addr} (hd : ∀ a ∈ ds, a.ok) (hb : l.length ≤ 1048576) (hdb : ds.length ≤ 1048576) (p : Option Go.Addr) (c : Nat) (qd : Option Go.Addr) (dd : Nat) (w : World) (hp : At w p l) (hn : p = none → c = 0) (hq : AtA w qd ds) (hg : Gl w) :
    Calls Tryd.prog 6 #[.slice p l.length c, .agg x.vals.toArray, .slice qd ds.length dd] w fun e w' => e = .returned (.bool true) ∧ Below w.heap.size w w' := by
  have HP := Lib.hid hp
  have HQ := Lib.hid hq
  have HD := Lib.hid hd
  have HL := Lib.hid hl
  have HG := Lib.hid hg
  have HX := Lib.hid hx
  have hlx : ∀ r ∈ l ++ [x], r.wf := fun r hr => (List.mem_append.1 hr).elim (hl r) fun h => by rw [List.mem_singleton.1 h]; exact hx
  have HLX := Lib.hid (fun r (hr : r ∈ l ++ [x]) => (hlx r hr).ok)
  have HOW := Lib.hid (fun w' (h : Below w.heap.size w w') => own_calls (fun r hr => (hl r hr).ok) hb p c w' (hp.later h) hn)
  have HOR := Lib.hid (fun w' (h : Below w.heap.size w w') => own_row (fun r hr => (hl r hr).ok) hb p c w' (hp.later h) hn)
  have HNW := Lib.hid (fun p c w' (h : AtS w' p l) => new_any hl p c w' h)
  have HNX := Lib.hid (fun p c w' (h : AtS w' p (l ++ [x])) => new_any hlx p c w' h)
  obtain ⟨i0, hi, hz0, hz1, hz2⟩ := info_parts (show (Tryd.prog.info? 44).map (fun i => (i.zero, i.size, i.bytes)) = some (some (.agg zeroRt.cells), 19, 40) by kernel_rfl)
  obtain ⟨m1, hm1⟩ : ∃ m, mayV l = m := ⟨_, rfl⟩
  obtain ⟨m2, hm2⟩ : ∃ m, mayV (l ++ [x]) = m := ⟨_, rfl⟩
  have FI1 : Hid (m1 = true → ∀ t w' a, a.ok → Tab w.heap.size w' t (sortV l) → Calls Tryd.prog 13 #[t, .agg a.vals.toArray] w' fun e w2 => e = .returned (.tuple #[.int .i64 (findV l a).1, .int .i64 (findV l a).2]) ∧ Below w'.heap.size w' w2) := Lib.hid fun hm t w' a ha ht => by
    have hm := hm1.trans hm
    have h := find_calls (sortV_wf hl) (by rw [sortV_len]; exact may_32 hm) w.heap.size t w' ht a ha
    rw [find_sort (fun r hr => (hl r hr).ok) (may_good hm)] at h
    exact h
  have FI2 : Hid (m2 = true → ∀ t w' a, a.ok → Tab w.heap.size w' t (sortV (l ++ [x])) → Calls Tryd.prog 13 #[t, .agg a.vals.toArray] w' fun e w2 => e = .returned (.tuple #[.int .i64 (findV (l ++ [x]) a).1, .int .i64 (findV (l ++ [x]) a).2]) ∧ Below w'.heap.size w' w2) := Lib.hid fun hm t w' a ha ht => by
    have hm := hm2.trans hm
    have h := find_calls (sortV_wf hlx) (by rw [sortV_len]; exact may_32 hm) w.heap.size t w' ht a ha
    rw [find_sort (fun r hr => (hlx r hr).ok) (may_good hm)] at h
    exact h
  have HML : Hid (m2 = true → m1 = true ∧ x.one = true) := Lib.hid fun h => by
    have := may_less (hm2.trans h)
    exact ⟨hm1.symm.trans this.1, this.2⟩
  simp only [List.length_append, List.length_singleton] at HNX
  obtain ⟨n, hnn⟩ : ∃ n, l.length = n := ⟨_, rfl⟩
  have HN := Lib.hid hnn
  have hxok := Lib.hid hx.ok
  obtain ⟨m, hmm⟩ : ∃ m, ds.length = m := ⟨_, rfl⟩
  have HDM := Lib.hid hmm
  rw [hmm] at hdb
  rw [hnn] at HOW HOR HNW HNX hb ⊢
  rw [hmm]
  rw [hm1] at HNW
  rw [hm2] at HNX
  clear hp hg hl hlx hn hnn hx hmm hq hd hm1 hm2
  go_enter Tryd.func6, Tryd.ntmps6
  go_upto_region 1 with fail
  refine wp_named fun W hW => ?_
  obtain ⟨bk, BW, sW⟩ := box1 hW
  clear hW
  go_upto_region 2 with (first | (go_at_call 10; refine (HOW.out _ BW.out).mono ?_; rintro e W2 ⟨p1, c1, rfl, hA1, _, hB2⟩) | (go_at_call 9; refine (HNW.out _ _ _ hA1).mono ?_; rintro e W3 ⟨t, rfl, hT, hT0, hB3⟩))
  have hB := hB2.trans (hB3.mono hB2.size)
  have bk := Lib.hid (bk.out.later hB bk.out.lt)
  have HB := keep BW hB
  have HE : Hid (AtX m1 w W3 t l) := Lib.hid ⟨(fun h => (hT h).mono (by have h1 := BW.out.size; have h2 := hB2.size; omega)), hT0⟩
  clear hT hT0 hB2 hB3 hA1 hB HOW HNW
  go_cut [9, 10] from 24 to 32 (fun v9 v10 wx => ∃ u, v9 = u ∧ v10 = .int .i64 (errV m2) ∧ Hid (AtX m2 w wx u (l ++ [x])) ∧ Hid (Below W3.heap.size W3 wx))
  case first =>
    refine wp_region_any (by kernel_rfl) ?_
    refine wpAny_named (B := W3.heap.size) (W0 := W3) ((Below.refl _ _).drew) fun Z hZ => ?_
    have HZ := Lib.hid hZ
    clear hZ
    refine wpAny_take (i := 0) (v := ?v16) rfl (by kernel_rfl) (by kernel_rfl) (by kernel_rfl) (fun _ _ _ h => h) (Or.inl ⟨by rfl, fun w => ?h16⟩) ?_
    case h16 => go_simp; try rfl
    simp only [Act.put, List.getElem_toArray, List.getElem_cons_succ, List.getElem_cons_zero, List.setIfInBounds_toArray, List.set_cons_zero, List.set_cons_succ]
    refine any_step2 1 2 (by kernel_rfl) rfl rfl rfl rfl ?_ ?_
    · skip
      refine wp_enter 10 #[.slice p n c] (by first | kernel_rfl | go_simp) ?_
      refine (HOR.out _ (keep HB HZ.out).out).mono ?_
      rintro e Z1 ⟨v1, rfl, hO, hBB⟩
      refine ⟨_, rfl, ?_⟩
      simp only [Act.put, List.setIfInBounds_toArray, List.set_cons_zero, List.set_cons_succ]
      have HOB := Lib.hid HZ.out.size
      have HO := Lib.hid hO
      have HZ := Lib.hid (HZ.out.trans (hBB.mono HZ.out.size))
      have HBS := Lib.hid hBB.size
      clear hBB hO
      generalize Z.heap.size = B0 at HOB HO HBS
      refine any_step 2 (by kernel_rfl) rfl rfl ?_
      refine wp_load_mid 44 _ rfl w.heap.size 0 rfl x.vals _ (full_at (bk.out.later HZ.out bk.out.lt)) Tryd.underlying44 rfl (rsz hxok.out) ?_
      simp only [Act.put, List.setIfInBounds_toArray, List.set_cons_zero, List.set_cons_succ]
      refine any_step 3 (by kernel_rfl) rfl rfl ?_
      refine wp_slice1 _ rfl x hxok.out rfl ?_
      simp only [Act.put, List.setIfInBounds_toArray, List.set_cons_zero, List.set_cons_succ]
      have HO := Lib.hid (World.ownsRow.alloc HO.out (.cells x.cells 44))
      have HBS := Lib.hid (show B0 ≤ (World.alloc Z1 (.cells x.cells 44)).heap.size by have := HBS.out; simp; omega)
      have HNS := Lib.hid (news_rt Z1 x)
      have HZ := Lib.hid (HZ.out.alloc HZ.out.size (.cells x.cells 44))
      generalize World.alloc Z1 (.cells x.cells 44) = Z2 at HZ HNS HO HBS ⊢
      generalize Z1.heap.size = gb at HNS ⊢
      refine any_step 4 (by kernel_rfl) rfl rfl ?_
      refine wp_append_lies Z2 _ _ 22 rfl B0 44 i0 _ 19 40 Tryd.underlying22 hi hz0 hz1 hz2 (by rfl) (by omega) v1 n (flat l) rfl HO.out ⟨gb, 0, none⟩ 1 1 x.vals rfl (by rw [vals_len hxok.out]) HNS.out (vals_one x) (by omega) (by unfold maxLen; omega) (by omega) ?cb _ rfl ?_
      case cb => exact HBS.out
      intro g cap Z3 hown hgrow _ _
      simp only [Act.put, List.setIfInBounds_toArray, List.set_cons_zero, List.set_cons_succ]
      have HZ := Lib.hid (HZ.out.grown hgrow HZ.out.size fun k hk => Nat.le_trans HOB.out (HO.out.lt k hk).1)
      obtain ⟨p3, c3, e3, hA3, _⟩ := row_ats (w := Z3) (n := 0) (l := l ++ [x]) (B := B0) (v := .slice (some ⟨g, 0, none⟩) (n + 1) cap) HLX.out (by rw [flat_snoc, List.length_append, HN.out]; exact hown)
      injection e3 with e4 e5 e6
      subst e4; subst e6
      have HA3 := Lib.hid hA3
      clear hown hgrow hA3 e5 HNS HO HOB HBS
      refine any_step 5 (by kernel_rfl) rfl rfl ?_
      refine wp_enter 9 #[.slice (some ⟨g, 0, none⟩) (n + 1) cap] (by first | kernel_rfl | go_simp) ?_
      refine (HNX.out _ _ _ HA3.out).mono ?_
      rintro e Z5 ⟨u, rfl, hT, hT0, hBB⟩
      refine ⟨_, rfl, ?_⟩
      simp only [Act.put, List.setIfInBounds_toArray, List.set_cons_zero, List.set_cons_succ]
      have HZU : Hid (AtX m2 w Z5 u (l ++ [x])) := Lib.hid ⟨(fun h => (hT h).mono (by have h1 := HB.out.size; have h2 := HZ.out.size; omega)), hT0⟩
      have HZ := Lib.hid (HZ.out.trans (hBB.mono HZ.out.size))
      clear hT hT0 hBB
      refine wpAny_take (i := 6) (v := ?v1) rfl (by kernel_rfl) (by kernel_rfl) (by kernel_rfl) (fun _ _ _ h => h) (Or.inl ⟨by rfl, fun w => ?h1⟩) ?_
      case h1 => go_simp; try rfl
      simp only [Act.put, List.getElem_toArray, List.getElem_cons_succ, List.getElem_cons_zero, List.setIfInBounds_toArray, List.set_cons_zero, List.set_cons_succ]
      refine wpAny_take (i := 7) (v := ?v2) rfl (by kernel_rfl) (by kernel_rfl) (by kernel_rfl) (fun _ _ _ h => h) (Or.inl ⟨by rfl, fun w => ?h2⟩) ?_
      case h2 => go_simp; try rfl
      simp only [Act.put, List.getElem_toArray, List.getElem_cons_succ, List.getElem_cons_zero, List.setIfInBounds_toArray, List.set_cons_zero, List.set_cons_succ]
      refine wpAny_take (i := 8) (v := ?v3) rfl (by kernel_rfl) (by kernel_rfl) (by kernel_rfl) (fun _ _ _ h => h) (Or.inl ⟨by rfl, fun w => ?h3⟩) ?_
      case h3 => go_simp; try rfl
      simp only [Act.put, List.getElem_toArray, List.getElem_cons_succ, List.getElem_cons_zero, List.setIfInBounds_toArray, List.set_cons_zero, List.set_cons_succ]
      refine wpAny_take (i := 9) (v := ?v4) rfl (by kernel_rfl) (by kernel_rfl) (by kernel_rfl) (fun _ _ _ h => h) (Or.inl ⟨by rfl, fun w => ?h4⟩) ?_
      case h4 => go_simp; try rfl
      simp only [Act.put, List.getElem_toArray, List.getElem_cons_succ, List.getElem_cons_zero, List.setIfInBounds_toArray, List.set_cons_zero, List.set_cons_succ]
      refine wpAny_take (i := 10) (v := ?v5) rfl (by kernel_rfl) (by kernel_rfl) (by kernel_rfl) (fun _ _ _ h => h) (Or.inl ⟨by rfl, fun w => ?h5⟩) ?_
      case h5 => go_simp; try rfl
      simp only [Act.put, List.getElem_toArray, List.getElem_cons_succ, List.getElem_cons_zero, List.setIfInBounds_toArray, List.set_cons_zero, List.set_cons_succ]
      refine wpAny_done (by kernel_rfl) ?_ _
      go_wp2
      go_meet
      case rel => exact ⟨_, rfl, rfl, HZU, HZ⟩
    · skip
      refine wp_load_mid 44 _ rfl w.heap.size 0 rfl x.vals _ (full_at (bk.out.later HZ.out bk.out.lt)) Tryd.underlying44 rfl (rsz hxok.out) ?_
      simp only [Act.put, List.setIfInBounds_toArray, List.set_cons_zero, List.set_cons_succ]
      refine any_step2 1 3 (by kernel_rfl) rfl rfl rfl rfl ?_ ?_
      · skip
        refine wp_enter 10 #[.slice p n c] (by first | kernel_rfl | go_simp) ?_
        refine (HOR.out _ (keep HB HZ.out).out).mono ?_
        rintro e Z1 ⟨v1, rfl, hO, hBB⟩
        refine ⟨_, rfl, ?_⟩
        simp only [Act.put, List.setIfInBounds_toArray, List.set_cons_zero, List.set_cons_succ]
        have HOB := Lib.hid HZ.out.size
        have HO := Lib.hid hO
        have HZ := Lib.hid (HZ.out.trans (hBB.mono HZ.out.size))
        have HBS := Lib.hid hBB.size
        clear hBB hO
        generalize Z.heap.size = B0 at HOB HO HBS
        refine any_step 3 (by kernel_rfl) rfl rfl ?_
        refine wp_slice1 _ rfl x hxok.out rfl ?_
        simp only [Act.put, List.setIfInBounds_toArray, List.set_cons_zero, List.set_cons_succ]
        have HO := Lib.hid (World.ownsRow.alloc HO.out (.cells x.cells 44))
        have HBS := Lib.hid (show B0 ≤ (World.alloc Z1 (.cells x.cells 44)).heap.size by have := HBS.out; simp; omega)
        have HNS := Lib.hid (news_rt Z1 x)
        have HZ := Lib.hid (HZ.out.alloc HZ.out.size (.cells x.cells 44))
        generalize World.alloc Z1 (.cells x.cells 44) = Z2 at HZ HNS HO HBS ⊢
        generalize Z1.heap.size = gb at HNS ⊢
        refine any_step 4 (by kernel_rfl) rfl rfl ?_
        refine wp_append_lies Z2 _ _ 22 rfl B0 44 i0 _ 19 40 Tryd.underlying22 hi hz0 hz1 hz2 (by rfl) (by omega) v1 n (flat l) rfl HO.out ⟨gb, 0, none⟩ 1 1 x.vals rfl (by rw [vals_len hxok.out]) HNS.out (vals_one x) (by omega) (by unfold maxLen; omega) (by omega) ?cb _ rfl ?_
        case cb => exact HBS.out
        intro g cap Z3 hown hgrow _ _
        simp only [Act.put, List.setIfInBounds_toArray, List.set_cons_zero, List.set_cons_succ]
        have HZ := Lib.hid (HZ.out.grown hgrow HZ.out.size fun k hk => Nat.le_trans HOB.out (HO.out.lt k hk).1)
        obtain ⟨p3, c3, e3, hA3, _⟩ := row_ats (w := Z3) (n := 0) (l := l ++ [x]) (B := B0) (v := .slice (some ⟨g, 0, none⟩) (n + 1) cap) HLX.out (by rw [flat_snoc, List.length_append, HN.out]; exact hown)
        injection e3 with e4 e5 e6
        subst e4; subst e6
        have HA3 := Lib.hid hA3
        clear hown hgrow hA3 e5 HNS HO HOB HBS
        refine any_step 5 (by kernel_rfl) rfl rfl ?_
        refine wp_enter 9 #[.slice (some ⟨g, 0, none⟩) (n + 1) cap] (by first | kernel_rfl | go_simp) ?_
        refine (HNX.out _ _ _ HA3.out).mono ?_
        rintro e Z5 ⟨u, rfl, hT, hT0, hBB⟩
        refine ⟨_, rfl, ?_⟩
        simp only [Act.put, List.setIfInBounds_toArray, List.set_cons_zero, List.set_cons_succ]
        have HZU : Hid (AtX m2 w Z5 u (l ++ [x])) := Lib.hid ⟨(fun h => (hT h).mono (by have h1 := HB.out.size; have h2 := HZ.out.size; omega)), hT0⟩
        have HZ := Lib.hid (HZ.out.trans (hBB.mono HZ.out.size))
        clear hT hT0 hBB
        refine wpAny_take (i := 6) (v := ?v6) rfl (by kernel_rfl) (by kernel_rfl) (by kernel_rfl) (fun _ _ _ h => h) (Or.inl ⟨by rfl, fun w => ?h6⟩) ?_
        case h6 => go_simp; try rfl
        simp only [Act.put, List.getElem_toArray, List.getElem_cons_succ, List.getElem_cons_zero, List.setIfInBounds_toArray, List.set_cons_zero, List.set_cons_succ]
        refine wpAny_take (i := 7) (v := ?v7) rfl (by kernel_rfl) (by kernel_rfl) (by kernel_rfl) (fun _ _ _ h => h) (Or.inl ⟨by rfl, fun w => ?h7⟩) ?_
        case h7 => go_simp; try rfl
        simp only [Act.put, List.getElem_toArray, List.getElem_cons_succ, List.getElem_cons_zero, List.setIfInBounds_toArray, List.set_cons_zero, List.set_cons_succ]
        refine wpAny_take (i := 8) (v := ?v8) rfl (by kernel_rfl) (by kernel_rfl) (by kernel_rfl) (fun _ _ _ h => h) (Or.inl ⟨by rfl, fun w => ?h8⟩) ?_
        case h8 => go_simp; try rfl
        simp only [Act.put, List.getElem_toArray, List.getElem_cons_succ, List.getElem_cons_zero, List.setIfInBounds_toArray, List.set_cons_zero, List.set_cons_succ]
        refine wpAny_take (i := 9) (v := ?v9) rfl (by kernel_rfl) (by kernel_rfl) (by kernel_rfl) (fun _ _ _ h => h) (Or.inl ⟨by rfl, fun w => ?h9⟩) ?_
        case h9 => go_simp; try rfl
        simp only [Act.put, List.getElem_toArray, List.getElem_cons_succ, List.getElem_cons_zero, List.setIfInBounds_toArray, List.set_cons_zero, List.set_cons_succ]
        refine wpAny_take (i := 10) (v := ?v10) rfl (by kernel_rfl) (by kernel_rfl) (by kernel_rfl) (fun _ _ _ h => h) (Or.inl ⟨by rfl, fun w => ?h10⟩) ?_
        case h10 => go_simp; try rfl
        simp only [Act.put, List.getElem_toArray, List.getElem_cons_succ, List.getElem_cons_zero, List.setIfInBounds_toArray, List.set_cons_zero, List.set_cons_succ]
        refine wpAny_done (by kernel_rfl) ?_ _
        go_wp2
        go_meet
        case rel => exact ⟨_, rfl, rfl, HZU, HZ⟩
      · skip
        refine wp_slice1 _ rfl x hxok.out rfl ?_
        simp only [Act.put, List.setIfInBounds_toArray, List.set_cons_zero, List.set_cons_succ]
        have HNS := Lib.hid (news_rt Z x)
        have HZ := Lib.hid (HZ.out.alloc HZ.out.size (.cells x.cells 44))
        generalize World.alloc Z (.cells x.cells 44) = Z2 at HZ HNS ⊢
        generalize Z.heap.size = gb at HNS ⊢
        refine any_step 1 (by kernel_rfl) rfl rfl ?_
        refine wp_enter 10 #[.slice p n c] (by first | kernel_rfl | go_simp) ?_
        refine (HOR.out _ (keep HB HZ.out).out).mono ?_
        rintro e Z1 ⟨v1, rfl, hO, hBB⟩
        refine ⟨_, rfl, ?_⟩
        simp only [Act.put, List.setIfInBounds_toArray, List.set_cons_zero, List.set_cons_succ]
        have HOB := Lib.hid HZ.out.size
        have HO := Lib.hid hO
        have HNS := Lib.hid (fun j u hu => (hBB.cell (World.block_lt_of_cell? _ _ (HNS.out j u hu))).trans (HNS.out j u hu))
        have HZ := Lib.hid (HZ.out.trans (hBB.mono HZ.out.size))
        have HBS := Lib.hid hBB.size
        clear hBB hO
        generalize Z2.heap.size = B0 at HOB HO HBS
        refine any_step 4 (by kernel_rfl) rfl rfl ?_
        refine wp_append_lies Z1 _ _ 22 rfl B0 44 i0 _ 19 40 Tryd.underlying22 hi hz0 hz1 hz2 (by rfl) (by omega) v1 n (flat l) rfl HO.out ⟨gb, 0, none⟩ 1 1 x.vals rfl (by rw [vals_len hxok.out]) HNS.out (vals_one x) (by omega) (by unfold maxLen; omega) (by omega) ?cb _ rfl ?_
        case cb => exact HBS.out
        intro g cap Z3 hown hgrow _ _
        simp only [Act.put, List.setIfInBounds_toArray, List.set_cons_zero, List.set_cons_succ]
        have HZ := Lib.hid (HZ.out.grown hgrow HZ.out.size fun k hk => Nat.le_trans HOB.out (HO.out.lt k hk).1)
        obtain ⟨p3, c3, e3, hA3, _⟩ := row_ats (w := Z3) (n := 0) (l := l ++ [x]) (B := B0) (v := .slice (some ⟨g, 0, none⟩) (n + 1) cap) HLX.out (by rw [flat_snoc, List.length_append, HN.out]; exact hown)
        injection e3 with e4 e5 e6
        subst e4; subst e6
        have HA3 := Lib.hid hA3
        clear hown hgrow hA3 e5 HNS HO HOB HBS
        refine any_step 5 (by kernel_rfl) rfl rfl ?_
        refine wp_enter 9 #[.slice (some ⟨g, 0, none⟩) (n + 1) cap] (by first | kernel_rfl | go_simp) ?_
        refine (HNX.out _ _ _ HA3.out).mono ?_
        rintro e Z5 ⟨u, rfl, hT, hT0, hBB⟩
        refine ⟨_, rfl, ?_⟩
        simp only [Act.put, List.setIfInBounds_toArray, List.set_cons_zero, List.set_cons_succ]
        have HZU : Hid (AtX m2 w Z5 u (l ++ [x])) := Lib.hid ⟨(fun h => (hT h).mono (by have h1 := HB.out.size; have h2 := HZ.out.size; omega)), hT0⟩
        have HZ := Lib.hid (HZ.out.trans (hBB.mono HZ.out.size))
        clear hT hT0 hBB
        refine wpAny_take (i := 6) (v := ?v11) rfl (by kernel_rfl) (by kernel_rfl) (by kernel_rfl) (fun _ _ _ h => h) (Or.inl ⟨by rfl, fun w => ?h11⟩) ?_
        case h11 => go_simp; try rfl
        simp only [Act.put, List.getElem_toArray, List.getElem_cons_succ, List.getElem_cons_zero, List.setIfInBounds_toArray, List.set_cons_zero, List.set_cons_succ]
        refine wpAny_take (i := 7) (v := ?v12) rfl (by kernel_rfl) (by kernel_rfl) (by kernel_rfl) (fun _ _ _ h => h) (Or.inl ⟨by rfl, fun w => ?h12⟩) ?_
        case h12 => go_simp; try rfl
        simp only [Act.put, List.getElem_toArray, List.getElem_cons_succ, List.getElem_cons_zero, List.setIfInBounds_toArray, List.set_cons_zero, List.set_cons_succ]
        refine wpAny_take (i := 8) (v := ?v13) rfl (by kernel_rfl) (by kernel_rfl) (by kernel_rfl) (fun _ _ _ h => h) (Or.inl ⟨by rfl, fun w => ?h13⟩) ?_
        case h13 => go_simp; try rfl
        simp only [Act.put, List.getElem_toArray, List.getElem_cons_succ, List.getElem_cons_zero, List.setIfInBounds_toArray, List.set_cons_zero, List.set_cons_succ]
        refine wpAny_take (i := 9) (v := ?v14) rfl (by kernel_rfl) (by kernel_rfl) (by kernel_rfl) (fun _ _ _ h => h) (Or.inl ⟨by rfl, fun w => ?h14⟩) ?_
        case h14 => go_simp; try rfl
        simp only [Act.put, List.getElem_toArray, List.getElem_cons_succ, List.getElem_cons_zero, List.setIfInBounds_toArray, List.set_cons_zero, List.set_cons_succ]
        refine wpAny_take (i := 10) (v := ?v15) rfl (by kernel_rfl) (by kernel_rfl) (by kernel_rfl) (fun _ _ _ h => h) (Or.inl ⟨by rfl, fun w => ?h15⟩) ?_
        case h15 => go_simp; try rfl
        simp only [Act.put, List.getElem_toArray, List.getElem_cons_succ, List.getElem_cons_zero, List.setIfInBounds_toArray, List.set_cons_zero, List.set_cons_succ]
        refine wpAny_done (by kernel_rfl) ?_ _
        go_wp2
        go_meet
        case rel => exact ⟨_, rfl, rfl, HZU, HZ⟩
  case rest =>
    obtain ⟨u, rfl, rfl, HU, HB5⟩ := hcut
    have q1 : errV false = 1 := rfl
    have q0 : errV true = 0 := rfl
    have HB6 := keep HB HB5.out
    have HG6 := Lib.hid (HG.out.later HB6.out)
    cases m1
    · cases m2
      · obtain rfl := HE.out.no rfl
        obtain rfl := HU.out.no rfl
        rw [q1]
        go_wp2_with (go_at_call 11; refine (known_calls _ HG6.out).mono ?_; rintro e W9 ⟨rfl, hB9⟩)
        go_ret
        exact ⟨rfl, (keep HB6 hB9).out⟩
      · exact absurd (HML.out rfl).1 (by simp)
    · obtain ⟨g1, _, rfl⟩ := (HE.out.yes rfl).ptr
      cases m2
      · obtain rfl := HU.out.no rfl
        rw [q0, q1]
        go_wp2_with (go_at_call 11; refine (known_calls _ HG6.out).mono ?_; rintro e W9 ⟨rfl, hB9⟩)
        go_ret
        exact ⟨rfl, (keep HB6 hB9).out⟩
      · obtain ⟨g2, _, rfl⟩ := (HU.out.yes rfl).ptr
        have HXO := Lib.hid (HML.out rfl).2
        have HA : Hid (Fm w x (.pointer (some ⟨g1, 0, none⟩)) (.pointer (some ⟨g2, 0, none⟩)) (sortV l) (sortV (l ++ [x])) wc) := Lib.hid ⟨HB6.out, HG6.out, (HE.out.yes rfl).later HB5.out, HU.out.yes rfl, bk.out.later HB5.out bk.out.lt⟩
        have FJ1 := Lib.hid (FI1.out rfl)
        have FJ2 := Lib.hid (FI2.out rfl)
        rw [q0]
        clear HE HU HB6 HG6 HB5 bk HB HML q0 q1 BW sW FI1 FI2
        go_upto_region 7 with (go_at_call 11; refine (known_calls _ HA.out.gl).mono ?_; rintro e W9 ⟨rfl, hB9⟩; have HA := Lib.hid (HA.out.later hB9); clear hB9)
        go_wp2
        go_loopw [11, 12, 13, 14, 15] (fun u _ _ _ _ wr => ∃ k : Nat, u = .int .i64 k ∧ k ≤ m ∧ Hid (Fm w x (.pointer (some ⟨g1, 0, none⟩)) (.pointer (some ⟨g2, 0, none⟩)) (sortV l) (sortV (l ++ [x])) wr)) (fun u _ _ _ _ _ => m - (intOf u).toNat)
        case atStart => exact ⟨0, rfl, Nat.zero_le _, HA⟩
        case round =>
          obtain ⟨k, rfl, hk, HA⟩ := hrel
          by_cases hlt : k < m
          · have e1 : decide ((k : Int) < (m : Int)) = true := decide_eq_true (by omega)
            have e1' : decide (k < m) = true := decide_eq_true hlt
            have HK : Hid (k < ds.length) := Lib.hid (by have := HDM.out; omega)
            obtain ⟨a, ha⟩ : ∃ r, ds[k]? = some r := ⟨_, List.getElem?_eq_getElem HK.out⟩
            have hao := Lib.hid (HD.out a (List.mem_of_getElem? ha))
            have hap := HQ.out.later HA.out.below
            have HAI := Lib.hid ha
            clear ha
            rcases hap with hap | ⟨ga, oa, rfl, hgl, hh⟩
            · have := HK.out; rw [hap] at this; exact absurd this (Nat.not_lt_zero _)
            have HX := Lib.hid (hh k a HAI.out)
            have HGA := Lib.hid hgl
            clear hh hgl
            have F1 := Lib.hid (fun t w' h => FJ1.out t w' a hao.out h)
            have F2 := Lib.hid (fun t w' h => FJ2.out t w' a hao.out h)
            have HLI := Lib.hid (fun (hv : a.valid = true) w => lies_calls a hao.out hv x hxok.out HXO.out w)
            have KEY : (a.valid = false ∧ findV (l ++ [x]) a = findV l a ∧ (findV l a).2 ≠ 210) ∨ (a.valid = true ∧ ((a.within x.net x.bits = false ∧ findV (l ++ [x]) a = findV l a) ∨ (a.within x.net x.bits = true ∧ ((findV (l ++ [x]) a = (x.link, 0)) ∨ (findV (l ++ [x]) a = findV l a ∧ (findV l a).2 = 0))))) := by
              cases hv : a.valid
              · left; rw [find_bad hv, find_bad hv]; exact ⟨rfl, rfl, by decide⟩
              · right
                have h := find_more (l := l) hv HXO.out
                cases hw : a.within x.net x.bits
                · exact ⟨rfl, .inl ⟨rfl, h.1 hw⟩⟩
                · exact ⟨rfl, .inr ⟨rfl, h.2 hw⟩⟩
            obtain ⟨ii, hii⟩ : ∃ i, a.within x.net x.bits = i := ⟨_, rfl⟩
            obtain ⟨v1, hv1⟩ : ∃ v, findV l a = v := ⟨_, rfl⟩
            obtain ⟨v2, hv2⟩ : ∃ v, findV (l ++ [x]) a = v := ⟨_, rfl⟩
            rw [hv1] at F1 KEY
            rw [hv2] at F2 KEY
            rw [hii] at HLI KEY
            obtain ⟨y1, z1⟩ := v1
            obtain ⟨y2, z2⟩ := v2
            simp only at F1 F2 KEY
            obtain ⟨b1, hb1⟩ : ∃ b, (y1 != y2) = b := ⟨_, rfl⟩
            obtain ⟨b2, hb2⟩ : ∃ b, (z1 != z2) = b := ⟨_, rfl⟩
            obtain ⟨b3, hb3⟩ : ∃ b, (z1 == 210) = b := ⟨_, rfl⟩
            have KD : Hid ((b1 = true ∨ b2 = true) → a.valid = true ∧ ii = true ∧ y2 = x.link ∧ z2 = 0) := Lib.hid fun h => by
              have hne : ¬ ((y2, z2) = (y1, z1)) := fun e => by
                injection e with e1 e2
                rw [← hb1, ← hb2, e1, e2] at h
                simp at h
              rcases KEY with ⟨_, h1, _⟩ | ⟨h0, ⟨_, h1⟩ | ⟨h1, h2 | h2⟩⟩
              · exact absurd h1 hne
              · exact absurd h1 hne
              · injection h2 with h2 h3; exact ⟨h0, h1, h2, h3⟩
              · exact absurd h2.1 hne
            have KE : Hid (b3 = true → a.valid = true ∧ (ii = true → y2 = x.link ∧ z2 = 0)) := Lib.hid fun h => by
              have hz : z1 = 210 := by rw [← hb3] at h; exact beq_iff_eq.1 h
              rcases KEY with ⟨_, _, h1⟩ | ⟨h0, ⟨h1, _⟩ | ⟨h1, h2 | h2⟩⟩
              · exact absurd hz h1
              · exact ⟨h0, fun h => by rw [h1] at h; cases h⟩
              · injection h2 with h2 h3; exact ⟨h0, fun _ => ⟨h2, h3⟩⟩
              · rw [h2.2] at hz; cases hz
            clear hii hv1 hv2 KEY
            go_upto_region 11 with (first | (refine wpList_load_at rfl 35 _ rfl ga (oa + k * 17) a.vals _ rfl HX.out Tryd.underlying35 rfl (by as_aux_lemma => exact asz hao.out) ?_) | (go_at_call 13; refine (F1.out (.pointer (some ⟨g1, 0, none⟩)) _ HA.out.one).mono ?_; rintro e W11 ⟨rfl, hB11⟩))
            have HA := Lib.hid (HA.out.later hB11)
            have HX : Hid (W11.rangeAt ga (oa + k * 17) a.vals) := Lib.hid fun j v hv => (hB11.cell (by exact HGA.out)).trans (HX.out j v hv)
            have HGA := Lib.hid (Nat.lt_of_lt_of_le HGA.out hB11.size)
            clear hB11 F1
            go_upto_region 12 with (first | (refine wpList_load_at rfl 35 _ rfl ga (oa + k * 17) a.vals _ rfl HX.out Tryd.underlying35 rfl (by as_aux_lemma => exact asz hao.out) ?_) | (go_at_call 13; refine (F2.out (.pointer (some ⟨g2, 0, none⟩)) _ HA.out.two).mono ?_; rintro e W12 ⟨rfl, hB12⟩))
            have HA := Lib.hid (HA.out.later hB12)
            have HX : Hid (W12.rangeAt ga (oa + k * 17) a.vals) := Lib.hid fun j v hv => (hB12.cell (by exact HGA.out)).trans (HX.out j v hv)
            have HGA := Lib.hid (Nat.lt_of_lt_of_le HGA.out hB12.size)
            have HBX := Lib.hid HA.out.box
            clear hB12 F2
            go_cut [116] from 66 to 136 (fun v wx => v = .bool false ∧ Hid (Below W12.heap.size W12 wx))
            case first =>
              have c18 : ∀ z : Later W12, z.val.cell? ⟨w.heap.size, 18, none⟩ = some (.int .i64 x.link) := Later.cell (link_at HBX.out hxok.out)
              cases b1
              · cases b2
                · skip
                  refine region_later (by kernel_rfl) (by kernel_rfl) ?_
                  repeat (first | go_big_quiet_skip | (go_big_quiet_want; first | (go_big_quiet_op; first | go_big_quiet_on | go_big_quiet_call (fail))))
                  refine wpQuiet_nil ?_
                  intro z hz
                  go_wp2
                  go_meet
                  case rel => exact ⟨rfl, Lib.hid hz⟩
                · obtain ⟨hv, rfl, rfl, rfl⟩ := KD.out (.inr rfl)
                  have HLI := Lib.hid (HLI.out hv)
                  have fc : ((0 : Int) != 0) = false := rfl
                  have fd : (x.link != x.link) = false := bne_self_eq_false _
                  clear hv
                  refine region_later (by kernel_rfl) (by kernel_rfl) ?_
                  repeat (first | go_big_quiet_skip | (go_big_quiet_want; first | (refine quiet_at 35 _ rfl ga (oa + k * 17) a.vals _ rfl HX.out Tryd.underlying35 rfl (by as_aux_lemma => exact asz hao.out) ?_; simp only [Act.put, List.setIfInBounds_toArray, List.set_cons_zero, List.set_cons_succ]; go_big_quiet_on) | (refine quiet_at 44 _ rfl w.heap.size 0 x.vals _ rfl (full_at HBX.out) Tryd.underlying44 rfl (by as_aux_lemma => exact rsz hxok.out) ?_; simp only [Act.put, List.setIfInBounds_toArray, List.set_cons_zero, List.set_cons_succ]; go_big_quiet_on) | (go_big_quiet_op; first | go_big_quiet_on | go_big_quiet_call ((go_at_call 20; exact calls_later (HLI.out _))))))
                  refine wpQuiet_nil ?_
                  intro z hz
                  go_wp2
                  go_meet
                  case rel => exact ⟨rfl, Lib.hid hz⟩
              · obtain ⟨hv, rfl, rfl, rfl⟩ := KD.out (.inl rfl)
                have HLI := Lib.hid (HLI.out hv)
                have fc : ((0 : Int) != 0) = false := rfl
                have fd : (x.link != x.link) = false := bne_self_eq_false _
                clear hv
                refine region_later (by kernel_rfl) (by kernel_rfl) ?_
                repeat (first | go_big_quiet_skip | (go_big_quiet_want; first | (refine quiet_at 35 _ rfl ga (oa + k * 17) a.vals _ rfl HX.out Tryd.underlying35 rfl (by as_aux_lemma => exact asz hao.out) ?_; simp only [Act.put, List.setIfInBounds_toArray, List.set_cons_zero, List.set_cons_succ]; go_big_quiet_on) | (refine quiet_at 44 _ rfl w.heap.size 0 x.vals _ rfl (full_at HBX.out) Tryd.underlying44 rfl (by as_aux_lemma => exact rsz hxok.out) ?_; simp only [Act.put, List.setIfInBounds_toArray, List.set_cons_zero, List.set_cons_succ]; go_big_quiet_on) | (go_big_quiet_op; first | go_big_quiet_on | go_big_quiet_call ((go_at_call 20; exact calls_later (HLI.out _))))))
                refine wpQuiet_nil ?_
                intro z hz
                go_wp2
                go_meet
                case rel => exact ⟨rfl, Lib.hid hz⟩
            case rest =>
              obtain ⟨rfl, HB12⟩ := hcut
              have HA := Lib.hid (HA.out.later HB12.out)
              have HX : Hid (wc.rangeAt ga (oa + k * 17) a.vals) := Lib.hid fun j v hv => (HB12.out.cell (by exact HGA.out)).trans (HX.out j v hv)
              have HBX := Lib.hid HA.out.box
              clear HB12 hb1 hb2 KD
              go_upto_region 14 with fail
              obtain ⟨W13, hW13⟩ : ∃ W, W = wc := ⟨wc, rfl⟩
              rw [← hW13] at HA HX HBX ⊢
              clear hW13
              go_cut [136] from 66 to 136 (fun v wx => v = .bool false ∧ Hid (Below W13.heap.size W13 wx))
              case first =>
                have c18 : ∀ z : Later W13, z.val.cell? ⟨w.heap.size, 18, none⟩ = some (.int .i64 x.link) := Later.cell (link_at HBX.out hxok.out)
                cases b3
                · skip
                  refine region_later (by kernel_rfl) (by kernel_rfl) ?_
                  repeat (first | go_big_quiet_skip | (go_big_quiet_want; first | (go_big_quiet_op; first | go_big_quiet_on | go_big_quiet_call (fail))))
                  refine wpQuiet_nil ?_
                  intro z hz
                  go_wp2
                  go_meet
                  case rel => exact ⟨rfl, Lib.hid hz⟩
                · obtain ⟨hv, hk2⟩ := KE.out rfl
                  have HLI := Lib.hid (HLI.out hv)
                  clear hv
                  cases ii
                  · clear hk2
                    refine region_later (by kernel_rfl) (by kernel_rfl) ?_
                    repeat (first | go_big_quiet_skip | (go_big_quiet_want; first | (refine quiet_at 35 _ rfl ga (oa + k * 17) a.vals _ rfl HX.out Tryd.underlying35 rfl (by as_aux_lemma => exact asz hao.out) ?_; simp only [Act.put, List.setIfInBounds_toArray, List.set_cons_zero, List.set_cons_succ]; go_big_quiet_on) | (refine quiet_at 44 _ rfl w.heap.size 0 x.vals _ rfl (full_at HBX.out) Tryd.underlying44 rfl (by as_aux_lemma => exact rsz hxok.out) ?_; simp only [Act.put, List.setIfInBounds_toArray, List.set_cons_zero, List.set_cons_succ]; go_big_quiet_on) | (go_big_quiet_op; first | go_big_quiet_on | go_big_quiet_call ((go_at_call 20; exact calls_later (HLI.out _))))))
                    refine wpQuiet_nil ?_
                    intro z hz
                    go_wp2
                    go_meet
                    case rel => exact ⟨rfl, Lib.hid hz⟩
                  · obtain ⟨rfl, rfl⟩ := hk2 rfl
                    have fc : ((0 : Int) != 0) = false := rfl
                    have fd : (x.link != x.link) = false := bne_self_eq_false _
                    refine region_later (by kernel_rfl) (by kernel_rfl) ?_
                    repeat (first | go_big_quiet_skip | (go_big_quiet_want; first | (refine quiet_at 35 _ rfl ga (oa + k * 17) a.vals _ rfl HX.out Tryd.underlying35 rfl (by as_aux_lemma => exact asz hao.out) ?_; simp only [Act.put, List.setIfInBounds_toArray, List.set_cons_zero, List.set_cons_succ]; go_big_quiet_on) | (refine quiet_at 44 _ rfl w.heap.size 0 x.vals _ rfl (full_at HBX.out) Tryd.underlying44 rfl (by as_aux_lemma => exact rsz hxok.out) ?_; simp only [Act.put, List.setIfInBounds_toArray, List.set_cons_zero, List.set_cons_succ]; go_big_quiet_on) | (go_big_quiet_op; first | go_big_quiet_on | go_big_quiet_call ((go_at_call 20; exact calls_later (HLI.out _))))))
                    refine wpQuiet_nil ?_
                    intro z hz
                    go_wp2
                    go_meet
                    case rel => exact ⟨rfl, Lib.hid hz⟩
              case rest =>
                obtain ⟨rfl, HB13⟩ := hcut
                have HA := Lib.hid (HA.out.later HB13.out)
                go_wp2
                exact ⟨⟨k + 1, by go_num, by omega, HA⟩, by simp [intOf]; omega⟩
          · have e1 : decide ((k : Int) < (m : Int)) = false := decide_eq_false (by omega)
            have e1' : decide (k < m) = false := decide_eq_false hlt
            have hvx := (one_iff.1 HXO.out).1
            have hmo := (find_more (l := l) hvx HXO.out).2 (within_own HXO.out)
            have h0 : (findV (l ++ [x]) x.net).2 = 0 := by
              rcases hmo with h | h
              · rw [h]
              · rw [h.1]; exact h.2
            have h1 : n = 0 → (findV (l ++ [x]) x.net).1 = x.link := fun hn0 => by
              rcases hmo with h | h
              · rw [h]
              · have hl0 : l = [] := List.eq_nil_of_length_eq_zero (HN.out.trans hn0)
                have h2 := h.2
                rw [hl0] at h2
                unfold findV at h2
                rw [if_pos hvx] at h2
                cases h2
            have FX := Lib.hid (fun w' h => FJ2.out (.pointer (some ⟨g2, 0, none⟩)) w' x.net hxok.out h)
            rw [h0] at FX
            obtain ⟨y, hy⟩ : ∃ y, (findV (l ++ [x]) x.net).1 = y := ⟨_, rfl⟩
            rw [hy] at FX h1
            have HBX := Lib.hid HA.out.box
            have H1 := Lib.hid h1
            clear hlt hvx hmo h0 h1 hy
            go_upto_region 17 with (first | (refine wpList_load_at rfl 35 _ rfl w.heap.size 0 x.net.vals _ rfl (net_at HBX.out) Tryd.underlying35 rfl (by as_aux_lemma => exact asz hxok.out) ?_) | (go_at_call 13; refine (FX.out _ HA.out.two).mono ?_; rintro e W14 ⟨rfl, hB14⟩))
            have HA := Lib.hid (HA.out.later hB14)
            clear hB14
            have c17 := bits_at HA.out.box hxok.out
            have c18 := link_at HA.out.box hxok.out
            obtain ⟨xb, hxb⟩ : ∃ b, x.bits = b := ⟨_, rfl⟩
            obtain ⟨xl, hxl⟩ : ∃ b, x.link = b := ⟨_, rfl⟩
            rw [hxb] at c17
            rw [hxl] at c18 H1
            clear hxb hxl
            by_cases h8 : xb < 8
            · have f8 : decide (xb < 8) = true := decide_eq_true h8
              clear h8
              go_wp2
              go_ret
              exact ⟨rfl, HA.out.below⟩
            · have f8 : decide (xb < 8) = false := decide_eq_false h8
              clear h8
              by_cases hyl : y = xl
              · have f9 : (y == xl) = true := beq_iff_eq.2 hyl
                clear hyl
                go_wp2
                go_ret
                exact ⟨rfl, HA.out.below⟩
              · have f9 : (y == xl) = false := beq_eq_false_iff_ne.2 hyl
                have hn0 : 0 < n := Nat.pos_of_ne_zero fun h => hyl (H1.out h)
                have f10 : decide ((0 : Int) < (n : Int)) = true := decide_eq_true (by omega)
                have f10' : decide (0 < n) = true := decide_eq_true hn0
                clear hyl hn0
                go_wp2
                go_ret
                exact ⟨rfl, HA.out.below⟩
end Go.Proofs.YtpaplobjmmpliaaDoor.Ad
