/- Contracts of the closure that sorts routes, of slices.Clone and of route.sorted. Conditions: addresses have sixteen bytes, numbers lie within 64 bits; the list is one that may be. -/
import Derived.Test.YtpaplobjmmpliaaDoorRd
import Derived.Test.YtpaplobjmmpliaaDoorSh
namespace Go.Proofs.YtpaplobjmmpliaaDoor.Ad
set_option linter.unusedVariables false
set_option linter.unusedSimpArgs false
open Go.RowKit Go.Maps W
/-- A world that has only grown and drawn. -/
def Gr (w w' : World) : Prop := ∃ q os, w' = Sort.grow (w.drewN q) os
theorem Gr.refl (w : World) : Gr w w := ⟨0, #[], by simp [Sort.grow, World.drewN]⟩
theorem Gr.trans {a b c : World} (h : Gr a b) (k : Gr b c) : Gr a c := by
  obtain ⟨q, os, rfl⟩ := h
  obtain ⟨q', os', rfl⟩ := k
  exact ⟨q + q', os ++ os', by simp [Sort.grow, World.drewN, Array.append_assoc, Nat.add_assoc]⟩
theorem Gr.alloc {a b : World} (h : Gr a b) (o : Obj) : Gr a (b.alloc o) := h.trans ⟨0, #[o], by rw [Sort.alloc_eq_grow]; rfl⟩
theorem Gr.drewN {a b : World} (h : Gr a b) (n : Nat) : Gr a (b.drewN n) := h.trans ⟨n, #[], by simp [Sort.grow, World.drewN]⟩
theorem Gr.below {a b : World} (h : Gr a b) : Below a.heap.size a b := by
  obtain ⟨q, os, rfl⟩ := h
  refine ⟨rfl, rfl, rfl, by simp [Sort.grow, World.drewN], fun k hk => ?_⟩
  show (a.heap ++ os)[k]? = a.heap[k]?
  rw [Array.getElem?_append_left hk]
set_option maxRecDepth 100000 in
set_option maxHeartbeats 4000000 in
theorem less_gr (a c : Addr) (ha : a.ok) (hc : c.ok) (w : World) : Calls Tryd.prog 45 #[.agg a.cells, .agg c.cells] w fun e w' => e = .returned (.bool (a.less c)) ∧ Gr w w' := by
  by_cases hv : a.v = c.v
  · have e1 : (a.v != c.v) = false := bne_eq_false_iff_eq.2 hv
    have HR : Hid (a.less c = decide (Lib.compareBytes a.b c.b < 0)) := Lib.hid (if_pos hv)
    clear hv
    go_enter Tryd.func45, Tryd.ntmps45
    go_upto_region 1 with fail
    refine wp_named fun W hW => ?_
    obtain ⟨bk, bk2, BW, sW⟩ := box2 hW
    have GW : Hid (Gr w W) := Lib.hid (by rw [hW]; exact ((Gr.refl _).alloc _).alloc _)
    clear hW
    have c0 := cell_v bk.out
    have d0 := cell_v bk2.out
    go_wp2
    go_quiet ((go_at_call 63; exact Calls.quiet_of_same (compare_any (l := a.b) (m := c.b) ha.symm hc.symm (Lib.hid fun i hi => cell_b bk.out ha i (by rw [← ha]; exact hi)) (Lib.hid fun i hi => cell_b bk2.out hc i (by rw [← hc]; exact hi)))))
    go_wp2
    go_ret
    exact ⟨by rw [HR.out]; rfl, GW.out.drewN _⟩
  · have e1 : (a.v != c.v) = true := bne_iff_ne.2 hv
    have HR : Hid (a.less c = decide (a.v < c.v)) := Lib.hid (if_neg hv)
    clear hv
    go_enter Tryd.func45, Tryd.ntmps45
    go_upto_region 1 with fail
    refine wp_named fun W hW => ?_
    obtain ⟨bk, bk2, BW, sW⟩ := box2 hW
    have GW : Hid (Gr w W) := Lib.hid (by rw [hW]; exact ((Gr.refl _).alloc _).alloc _)
    clear hW
    have c0 := cell_v bk.out
    have d0 := cell_v bk2.out
    go_wp2
    go_ret
    exact ⟨by rw [HR.out]; rfl, GW.out⟩
/-- What the closure's world holds. -/
structure Two (w : World) (x y : Rt) (W : World) : Prop where
  gr : Gr w W
  b1 : Blk W w.heap.size 44 x.cells
  b2 : Blk W (w.heap.size + 1) 44 y.cells
theorem Two.later {w W W' : World} {x y : Rt} (h : Two w x y W) (hg : Gr W W') : Two w x y W' := ⟨h.gr.trans hg, h.b1.later hg.below h.b1.lt, h.b2.later hg.below h.b2.lt⟩
theorem Two.box {w W : World} {x y : Rt} (h : W = (w.alloc (.cells x.cells 44)).alloc (.cells y.cells 44)) : Two w x y W := by
  obtain ⟨k1, k2, bw, _⟩ := box2 h
  exact ⟨by rw [h]; exact ((Gr.refl _).alloc _).alloc _, k1.out, k2.out⟩
set_option maxRecDepth 100000 in
set_option maxHeartbeats 4000000 in
theorem cmp_calls (x y : Rt) (hx : x.ok) (hy : y.ok) (w : World) : Calls Tryd.prog 44 #[.agg x.cells, .agg y.cells] w fun e w' => e = .returned (.int .i64 (x.cmp y)) ∧ Gr w w' := by
  have H1 : Hid (∀ w, Calls Tryd.prog 45 #[.agg x.net.vals.toArray, .agg y.net.vals.toArray] w fun e w' => e = .returned (.bool (x.net.less y.net)) ∧ Gr w w') := Lib.hid (fun w => less_gr x.net y.net hx hy w)
  have H2 : Hid (∀ w, Calls Tryd.prog 45 #[.agg y.net.vals.toArray, .agg x.net.vals.toArray] w fun e w' => e = .returned (.bool (y.net.less x.net)) ∧ Gr w w') := Lib.hid (fun w => less_gr y.net x.net hy hx w)
  go_enter Tryd.func44, Tryd.ntmps44
  go_upto_region 1 with fail
  refine wp_named fun W hW => ?_
  have HA := Lib.hid (Two.box hW)
  have k1 := bits_at HA.out.b1 hx
  have k2 := bits_at HA.out.b2 hy
  clear hW
  cases h1 : x.net.less y.net <;> cases h2 : y.net.less x.net
  · obtain ⟨e0⟩ : Nonempty (Hid (x.cmp y = Lib.compareInt x.bits y.bits)) := ⟨Lib.hid (by unfold Rt.cmp; rw [if_neg (by rw [h1]; simp)]; rw [if_neg (by rw [h2]; simp)])⟩
    rw [h1] at H1
    rw [h2] at H2
    clear h1 h2
    go_wp2_with (first | (refine wpList_load_at rfl 35 _ rfl w.heap.size 0 x.net.vals _ rfl (net_at HA.out.b1) Tryd.underlying35 rfl (by as_aux_lemma => exact asz hx) ?_) | (refine wpList_load_at rfl 35 _ rfl (w.heap.size + 1) 0 y.net.vals _ rfl (net_at HA.out.b2) Tryd.underlying35 rfl (by as_aux_lemma => exact asz hy) ?_) | (go_at_call 45; (first | (with_reducible refine (H1.out _).mono ?_) | (with_reducible refine (H2.out _).mono ?_)); rintro e W9 ⟨rfl, hB9⟩; have HA := Lib.hid (HA.out.later hB9); have k1 := bits_at HA.out.b1 hx; have k2 := bits_at HA.out.b2 hy; clear hB9) | (go_at_call 46; refine (Tryd.cmp_Compare_int _ _ _).mono ?_; rintro e W9 ⟨rfl, rfl⟩))
    go_ret
    exact ⟨by rw [e0.out]; rfl, HA.out.gr⟩
  · obtain ⟨e0⟩ : Nonempty (Hid (x.cmp y = 1)) := ⟨Lib.hid (by unfold Rt.cmp; rw [if_neg (by rw [h1]; simp)]; rw [if_pos h2])⟩
    rw [h1] at H1
    rw [h2] at H2
    clear h1 h2
    go_wp2_with (first | (refine wpList_load_at rfl 35 _ rfl w.heap.size 0 x.net.vals _ rfl (net_at HA.out.b1) Tryd.underlying35 rfl (by as_aux_lemma => exact asz hx) ?_) | (refine wpList_load_at rfl 35 _ rfl (w.heap.size + 1) 0 y.net.vals _ rfl (net_at HA.out.b2) Tryd.underlying35 rfl (by as_aux_lemma => exact asz hy) ?_) | (go_at_call 45; (first | (with_reducible refine (H1.out _).mono ?_) | (with_reducible refine (H2.out _).mono ?_)); rintro e W9 ⟨rfl, hB9⟩; have HA := Lib.hid (HA.out.later hB9); have k1 := bits_at HA.out.b1 hx; have k2 := bits_at HA.out.b2 hy; clear hB9) | (go_at_call 46; refine (Tryd.cmp_Compare_int _ _ _).mono ?_; rintro e W9 ⟨rfl, rfl⟩))
    go_ret
    exact ⟨by rw [e0.out]; rfl, HA.out.gr⟩
  · obtain ⟨e0⟩ : Nonempty (Hid (x.cmp y = -1)) := ⟨Lib.hid (by unfold Rt.cmp; rw [if_pos h1])⟩
    rw [h1] at H1
    rw [h2] at H2
    clear h1 h2
    go_wp2_with (first | (refine wpList_load_at rfl 35 _ rfl w.heap.size 0 x.net.vals _ rfl (net_at HA.out.b1) Tryd.underlying35 rfl (by as_aux_lemma => exact asz hx) ?_) | (refine wpList_load_at rfl 35 _ rfl (w.heap.size + 1) 0 y.net.vals _ rfl (net_at HA.out.b2) Tryd.underlying35 rfl (by as_aux_lemma => exact asz hy) ?_) | (go_at_call 45; (first | (with_reducible refine (H1.out _).mono ?_) | (with_reducible refine (H2.out _).mono ?_)); rintro e W9 ⟨rfl, hB9⟩; have HA := Lib.hid (HA.out.later hB9); have k1 := bits_at HA.out.b1 hx; have k2 := bits_at HA.out.b2 hy; clear hB9) | (go_at_call 46; refine (Tryd.cmp_Compare_int _ _ _).mono ?_; rintro e W9 ⟨rfl, rfl⟩))
    go_ret
    exact ⟨by rw [e0.out]; rfl, HA.out.gr⟩
  · obtain ⟨e0⟩ : Nonempty (Hid (x.cmp y = -1)) := ⟨Lib.hid (by unfold Rt.cmp; rw [if_pos h1])⟩
    rw [h1] at H1
    rw [h2] at H2
    clear h1 h2
    go_wp2_with (first | (refine wpList_load_at rfl 35 _ rfl w.heap.size 0 x.net.vals _ rfl (net_at HA.out.b1) Tryd.underlying35 rfl (by as_aux_lemma => exact asz hx) ?_) | (refine wpList_load_at rfl 35 _ rfl (w.heap.size + 1) 0 y.net.vals _ rfl (net_at HA.out.b2) Tryd.underlying35 rfl (by as_aux_lemma => exact asz hy) ?_) | (go_at_call 45; (first | (with_reducible refine (H1.out _).mono ?_) | (with_reducible refine (H2.out _).mono ?_)); rintro e W9 ⟨rfl, hB9⟩; have HA := Lib.hid (HA.out.later hB9); have k1 := bits_at HA.out.b1 hx; have k2 := bits_at HA.out.b2 hy; clear hB9) | (go_at_call 46; refine (Tryd.cmp_Compare_int _ _ _).mono ?_; rintro e W9 ⟨rfl, rfl⟩))
    go_ret
    exact ⟨by rw [e0.out]; rfl, HA.out.gr⟩
theorem swo (l : List Rt) (hl : ∀ r ∈ l, r.ok) : Sort.SWO (ltOf fun x y : {r : Rt // r ∈ l} => x.val.cmp y.val) where
  irrefl x := by unfold ltOf; rw [cmp_lt (hl _ x.property) (hl _ x.property)]; exact ahead_self _
  trans x y z h1 h2 := by
    unfold ltOf at *
    rw [cmp_lt (hl _ x.property) (hl _ y.property)] at h1
    rw [cmp_lt (hl _ y.property) (hl _ z.property)] at h2
    rw [cmp_lt (hl _ x.property) (hl _ z.property)]
    exact ahead_on (hl _ x.property) (hl _ y.property) (hl _ z.property) h1 h2
  ntrans x y z h1 h2 := by
    unfold ltOf at *
    rw [cmp_lt (hl _ x.property) (hl _ y.property)] at h1
    rw [cmp_lt (hl _ y.property) (hl _ z.property)] at h2
    rw [cmp_lt (hl _ x.property) (hl _ z.property)]
    exact ahead_not (hl _ x.property) (hl _ y.property) (hl _ z.property) h1 h2
theorem below_grow {B : Nat} {w0 w : World} (h : Below B w0 w) (hB : B ≤ w.heap.size) (os : Array Obj) : Below B w0 (Sort.grow w os) :=
  h.trans ((Gr.below ⟨0, os, rfl⟩ : Below w.heap.size w (Sort.grow w os)).mono hB)
theorem sort_calls {l : List Rt} (hl : ∀ r ∈ l, r.wf) (hgd : goodTo l l.length) (h32 : l.length ≤ 32) (h0 : l ≠ []) (B g c : Nat) (w : World)
    (ho : w.ownsRow B 44 19 (.slice (some ⟨g, 0, none⟩) l.length c) l.length (flat l)) : Calls Tryd.prog 43 #[.slice (some ⟨g, 0, none⟩) l.length c, .func (.func 44) #[] #[]] w fun e w' =>
    e = .returned (.tuple #[]) ∧ Has w' g 0 (sortV l) ∧ g < w'.heap.size ∧ (∀ B' w0, Below B' w0 w → B' ≤ g → Below B' w0 w') := by
  have hok : ∀ r ∈ l, r.ok := fun r hr => (hl r hr).ok
  obtain ⟨r0, hr0⟩ : ∃ r, r ∈ l := List.exists_mem_of_ne_nil l h0
  have hI : Inhabited {r : Rt // r ∈ l} := ⟨⟨r0, hr0⟩⟩
  have hsz : l.attach.toArray.size = l.length := by simp
  have hfl : Sort.flatK (fun x : {r : Rt // r ∈ l} => x.val.vals) 19 l.attach.toArray = (flat l).toArray := by
    refine Sort.ext_get! (by rw [Sort.size_flatK, hsz, List.size_toArray, flat_len hok]) fun t ht => ?_
    rw [Sort.size_flatK, hsz] at ht
    rw [Sort.get_flatK _ _ _ _ (by rw [hsz]; exact ht)]
    have hlt : t / 19 < l.length := by omega
    have h1 := flat_at hok (List.getElem?_eq_getElem hlt) (Nat.mod_lt t (show 0 < 19 by omega))
    rw [show t / 19 * 19 + t % 19 = t by omega] at h1
    have h2 : (l.attach.toArray)[t / 19]! = ⟨l[t / 19], List.getElem_mem hlt⟩ := by
      rw [getElem!_pos _ _ (by rw [hsz]; exact hlt)]; simp
    rw [h2]
    have h3 : t % 19 < (l[t / 19]).vals.length := by rw [vals_len (hok _ (List.getElem_mem hlt))]; exact Nat.mod_lt _ (by omega)
    rw [getElem!_pos (l[t / 19]).vals (t % 19) h3, getElem!_pos (flat l).toArray t (by rw [List.size_toArray, flat_len hok]; exact ht)]
    rw [List.getElem?_eq_getElem h3, List.getElem?_eq_getElem (by rw [flat_len hok]; exact ht)] at h1
    simpa using (Option.some.inj h1).symm
  have hh : g < w.heap.size ∧ Sort.Holds id w g 0 (flat l).toArray := by
    rcases ho.2 with ⟨e0, _⟩ | ⟨g', cap', cur, e0, hb, hg, hn, hm, hs, ht⟩
    · cases e0
    · injection e0 with e1 _ _
      injection e1 with e1
      injection e1 with e1
      subst e1
      refine ⟨(Array.getElem?_eq_some_iff.1 hg).1, fun j hj => ⟨?_, by simp [World.frozen?, hg]⟩⟩
      have hj' : j < l.length * 19 := by rw [List.size_toArray, flat_len hok] at hj; exact hj
      have e2 : (cur.toList.take (l.length * 19))[j]? = (flat l)[j]? := by rw [ht]
      rw [List.getElem?_take, if_pos hj', Array.getElem?_toList, List.getElem?_eq_getElem (by rw [flat_len hok]; exact hj')] at e2
      simp only [World.cell?, hg, Nat.zero_add, Option.isSome_none, Bool.false_eq_true, if_false]
      rw [e2]
      simp [getElem!_pos, flat_len hok, hj']
  have hH : Sort.HoldsK (fun x : {r : Rt // r ∈ l} => x.val.vals) 19 w g 0 l.attach.toArray := by unfold Sort.HoldsK; rw [hfl]; exact hh.2
  have hcon := AnyQ.slices_SortFunc_total Tryd.laySort 19 Tryd.isAgg44 Tryd.sizeOf44 (fun x : {r : Rt // r ∈ l} => x.val.vals) (fun x => vals_len (hok _ x.property))
    (fun x v hv => by have := rone x.val; rw [Array.all_eq_true'] at this; exact this v (by simpa [Rt.cells] using hv)) (fun x y => x.val.cmp y.val) (swo l hok) 44 #[] g 0 c l.attach.toArray w
    (enters_of Tryd.func44 (by kernel_rfl) rfl) (fun m os dk _ x y => cmp_calls x.val y.val (hok _ x.property) (hok _ y.property) _) hH hh.1 (by rw [hsz]; omega)
    (fun x y h1 h2 => by
      unfold ltOf at h1 h2
      rw [cmp_lt (hok _ x.property) (hok _ y.property)] at h1
      rw [cmp_lt (hok _ y.property) (hok _ x.property)] at h2
      cases hs : x.val.same y.val with
      | true => exact Subtype.ext (good_inj hgd x.property y.property hs)
      | false =>
        rcases ahead_total (hok _ x.property) (hok _ y.property) hs with h | h
        · rw [h1] at h; cases h
        · rw [h2] at h; cases h)
  rw [hsz] at hcon
  refine hcon.mono fun e w' ⟨he, n, os, hw⟩ => ?_
  subst hw
  have hl2 : (l.attach.mergeSort fun x y => !decide (y.val.cmp x.val < 0)).length = l.length := by rw [List.length_mergeSort]; simp
  obtain ⟨S, hS⟩ : ∃ S, (l.attach.mergeSort fun x y => !decide (y.val.cmp x.val < 0)) = S := ⟨_, rfl⟩
  have hsv : sortV l = S.map (·.val) := by rw [← hS]; rfl
  rw [hS] at hl2
  have hw : (l.attach.toArray.toList.mergeSort fun x y => !(ltOf fun x y : {r : Rt // r ∈ l} => x.val.cmp y.val) y x) = S := by rw [← hS]; rfl
  rw [hw]
  have hsize : (Go.Sort.putRowK (fun x : {r : Rt // r ∈ l} => x.val.vals) 19 (Go.Sort.ahead w n) g 0 S.toArray).heap.size = w.heap.size := by simp [Go.Sort.putRowK, Go.Sort.putRow, Go.Sort.mapBlock, Go.Sort.ahead]
  have hK : Go.Sort.HoldsK (fun x : {r : Rt // r ∈ l} => x.val.vals) 19 (sortWorldK (fun x : {r : Rt // r ∈ l} => x.val.vals) 19 w g 0 n S.toArray os) g 0 S.toArray := by
    unfold sortWorldK
    exact Go.Sort.holdsK_grow _ 19 _ os g 0 _ (by rw [hsize]; exact hh.1) (Go.Sort.holdsK_putRowK _ 19 (Go.Sort.ahead w n) g 0 l.attach.toArray S.toArray hH (by rw [hsz]; simpa using hl2))
  refine ⟨he, ?_, ?_, ?_⟩
  · rw [hsv]
    intro i r hr j v hv
    rw [List.getElem?_map] at hr
    have hi : i < S.length := by
      rcases Nat.lt_or_ge i S.length with h | h
      · exact h
      · rw [List.getElem?_eq_none h] at hr; cases hr
    rw [List.getElem?_eq_getElem hi] at hr
    injection hr with hr
    have hj : j < 19 := by have := (List.getElem?_eq_some_iff.1 hv).1; rwa [← hr, vals_len (hok _ (S[i]).property)] at this
    have hc := (hK.cell (i := i) (c := j) (by simpa using hi) hj).1
    rw [hc]
    rw [getElem!_pos S.toArray i (by simpa using hi)]
    have e1 : (S.toArray[i]'(by simpa using hi)).val = r := by simpa using hr
    rw [e1]
    have hjl : j < r.vals.length := (List.getElem?_eq_some_iff.1 hv).1
    rw [getElem!_pos r.vals j hjl]
    rw [List.getElem?_eq_getElem hjl] at hv; exact hv
  · show g < (Go.Sort.grow _ os).heap.size
    unfold Go.Sort.grow
    simp only [Array.size_append]
    rw [hsize]; have := hh.1; omega
  · intro B' w0 hb hB
    unfold sortWorldK
    refine below_grow ?_ (by rw [hsize]; have := hh.1; omega) os
    unfold Go.Sort.putRowK
    exact Lib.below_putRow hb hB
/-- A slice of routes that lies below the world's end. -/
def AtS (w : World) (p : Option Go.Addr) (l : List Rt) : Prop := (p = none ∧ l = []) ∨ ∃ g o, p = some ⟨g, o, none⟩ ∧ g < w.heap.size ∧ Has w g o l
theorem AtS.at {w : World} {p : Option Go.Addr} {l : List Rt} (h : AtS w p l) : At w p l := by
  rcases h with h | h
  · exact .inl h.2
  · exact .inr h
theorem AtS.later {w w' : World} {p : Option Go.Addr} {l : List Rt} (h : AtS w p l) (hb : Below w.heap.size w w') : AtS w' p l := by
  rcases h with h | ⟨g, o, h1, h2, h3⟩
  · exact .inl h
  · exact .inr ⟨g, o, h1, Nat.lt_of_lt_of_le h2 hb.size, h3.later hb h2⟩
theorem clone_calls {l : List Rt} (hl : ∀ r ∈ l, r.wf) (h32 : l.length ≤ 32) (p : Option Go.Addr) (c : Nat) (w : World) (hp : AtS w p l) : Calls Tryd.prog 31 #[.slice p l.length c] w fun e w' =>
    ∃ v, e = .returned v ∧ w'.ownsRow w.heap.size 44 19 v l.length (flat l) ∧ Below w.heap.size w w' := by
  have hok : ∀ r ∈ l, r.ok := fun r hr => (hl r hr).ok
  rcases hp with ⟨rfl, rfl⟩ | ⟨g, o, rfl, hg, hh⟩
  · refine (AnyE.slices_Clone_nil Tryd.layClone 0 c w).mono fun e w' ⟨he, hw⟩ => ⟨_, he, ?_, by rw [hw]; exact Below.refl _ _⟩
    exact World.ownsRow_nil _ _ _ _
  · obtain ⟨i0, hi, hz0, hz1, hz2⟩ := info_parts (show (Tryd.prog.info? 44).map (fun i => (i.zero, i.size, i.bytes)) = some (some (.agg zeroRt.cells), 19, 40) by kernel_rfl)
    refine (AnyE.slices_Clone Tryd.layClone i0 _ 19 40 hi hz0 hz1 hz2 (by rfl) (by omega) Tryd.sizeOf44 g o l.length c (flat l) w (flat_len hok) (by unfold maxLen; omega) (by omega) (has_cells hok hh) (flat_one l)).mono fun e w' ⟨v, he, ho, _, hb⟩ => ⟨v, he, ho, hb⟩
end Go.Proofs.YtpaplobjmmpliaaDoor.Ad
