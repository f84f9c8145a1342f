/- Contracts of the Go functions that a statement of this seat reaches: a Lean function for each, and the proof that the Go code answers what it answers; written by a program of this session. Conditions: none beyond those that each theorem states. -/
import Derived.Test.YtoijfhcmjolecaaPAllx0
import Derived.Test.YtoijfhcmjolecaaPAllx1
import Derived.Test.YtoijfhcmjolecaaPAllx2
namespace Go.Proofs.Ytoijfhcmjolecaa.PAll
open Go.RowKit Go.Proofs.YtoijfhcmjolecaaW.PrintWords Go.Proofs.YtoijfhcmjolecaaW.PrintLast Go.Proofs.YtoijfhcmjolecaaW.PrintMore
attribute [local go_sem] max2_int min2_int max_two min_two max_three min_three max_four min_four   -- for this text's walks alone
set_option linter.unusedVariables false
set_option linter.unusedSimpArgs false

/-! ### mosaiclaw01_SumOrders: function 5 -/
def mosaiclaw01_SumOrders.j0 : Nat → List Int → Int → Int → Int → Bool → Option (Bool)
  | 0, _, _, _, _, _ => none
  | k + 1, x0, x1, x2, x7, x31 => if x31 = true then (some false) else (if (wrap64 ((x0.length : Int) / 2)) = 0 then (if (x0.length : Int) = 1 then (if 0 < (x0.length : Int) then (if x7 = (IntKind.u16.wrap ((IntKind.u16.wrap (rd x0 0)) * 256)) then (some true) else (if (x0.length : Int) = 0 then (some (x7 == 0)) else (some false))) else (none)) else (if (x0.length : Int) = 0 then (some (x7 == 0)) else (some false))) else ((mosaiclaw01_own.f x0).bind fun t174 => ((mosaiclaw01_rest.f x1 (wrap64 ((wrap64 ((x0.length : Int) / 2)) - 1))).bind fun t177 => ((mosaiclaw01_rest.f x2 (wrap64 ((wrap64 ((x0.length : Int) / 2)) - 1))).bind fun t178 => (if 0 ≤ (wrap64 (2 * t178)) then (if (wrap64 (2 * t178)) < (x0.length : Int) then (if 0 ≤ (wrap64 ((wrap64 (2 * t178)) + 1)) then (if (wrap64 ((wrap64 (2 * t178)) + 1)) < (x0.length : Int) then (if 0 ≤ (wrap64 (2 * t177)) then (if (wrap64 (2 * t177)) < (x0.length : Int) then (if 0 ≤ (wrap64 ((wrap64 (2 * t177)) + 1)) then (if (wrap64 ((wrap64 (2 * t177)) + 1)) < (x0.length : Int) then (if (wrap64 (2 * t177)) < (t174.length : Int) then (if (wrap64 ((wrap64 (2 * t177)) + 1)) < (t174.length : Int) then (if (wrap64 (2 * t178)) < (t174.length : Int) then (if (wrap64 ((wrap64 (2 * t178)) + 1)) < (t174.length : Int) then ((sum_Part.f k ((((t174.set ((wrap64 (2 * t177)) : Int).toNat (rd x0 (wrap64 (2 * t178)))).set ((wrap64 ((wrap64 (2 * t177)) + 1)) : Int).toNat (rd x0 (wrap64 ((wrap64 (2 * t178)) + 1)))).set ((wrap64 (2 * t178)) : Int).toNat (rd x0 (wrap64 (2 * t177)))).set ((wrap64 ((wrap64 (2 * t178)) + 1)) : Int).toNat (rd x0 (wrap64 ((wrap64 (2 * t177)) + 1))))).bind fun t187 => (some (t187 == x7))) else (none)) else (none)) else (none)) else (none)) else (none)) else (none)) else (none)) else (none)) else (none)) else (none)) else (none)) else (none))))))
def mosaiclaw01_SumOrders.f (k : Nat) (l0 : List Int) (a1 : Int) (a2 : Int) : Option (Bool) := (mosaiclaw01_known.f k).bind fun t166 => (if t166 = true then ((sum_Part.f k l0).bind fun t167 => ((mosaiclaw01_swapped.f k l0).bind fun t168 => ((sum_Part.f k t168).bind fun t171 => (if t171 = (Go.bits .or .u16 (IntKind.u16.wrap (t167 * 256)) (t167 / 256)) then ((sum_Of.f k l0).bind fun t172 => (mosaiclaw01_SumOrders.j0 k l0 a1 a2 t167 (t172 != (IntKind.u16.wrap (65535 - t167))))) else (mosaiclaw01_SumOrders.j0 k l0 a1 a2 t167 true))))) else (some false))
theorem mosaiclaw01_SumOrders.mono_l : ∀ k, (∀ y0 y1 y2 y3 y4, LeO (mosaiclaw01_SumOrders.j0 k y0 y1 y2 y3 y4) (mosaiclaw01_SumOrders.j0 (k + 1) y0 y1 y2 y3 y4))
  | 0 => fun _ _ _ _ _ r h => by simp [mosaiclaw01_SumOrders.j0] at h
  | k + 1 => by
    have ih0 := mosaiclaw01_SumOrders.mono_l k
    · intro y0 y1 y2 y3 y4
      unfold mosaiclaw01_SumOrders.j0
      repeat' first
      | (with_reducible exact ih0 _ _ _ _ _)
      | (with_reducible exact mosaiclaw01_known.mono _)
      | (with_reducible exact mosaiclaw01_swapped.mono _ _)
      | (with_reducible exact sum_Of.mono _ _)
      | (with_reducible exact sum_Part.mono _ _)
      | (with_reducible exact LeO.refl _)
      | (with_reducible exact LeO.none _)
      | (with_reducible refine LeO.ite ?_ ?_)
      | (with_reducible refine LeO.bind ?_ (fun _ => ?_))
      | exact ih0 _ _ _ _ _
      | exact mosaiclaw01_known.mono _
      | exact mosaiclaw01_swapped.mono _ _
      | exact sum_Of.mono _ _
      | exact sum_Part.mono _ _
      | exact LeO.none _
      | refine LeO.ite ?_ ?_
      | refine LeO.bind ?_ (fun _ => ?_)
theorem mosaiclaw01_SumOrders.mono : ∀ a0 a1 a2 k, LeO (mosaiclaw01_SumOrders.f k a0 a1 a2) (mosaiclaw01_SumOrders.f (k + 1) a0 a1 a2) := by
  intro a0 a1 a2 k
  have ih0 := mosaiclaw01_SumOrders.mono_l k
  unfold mosaiclaw01_SumOrders.f
  repeat' first
      | (with_reducible exact ih0 _ _ _ _ _)
      | (with_reducible exact mosaiclaw01_known.mono _)
      | (with_reducible exact mosaiclaw01_swapped.mono _ _)
      | (with_reducible exact sum_Of.mono _ _)
      | (with_reducible exact sum_Part.mono _ _)
      | (with_reducible exact LeO.refl _)
      | (with_reducible exact LeO.none _)
      | (with_reducible refine LeO.ite ?_ ?_)
      | (with_reducible refine LeO.bind ?_ (fun _ => ?_))
      | exact ih0 _ _ _ _ _
      | exact mosaiclaw01_known.mono _
      | exact mosaiclaw01_swapped.mono _ _
      | exact sum_Of.mono _ _
      | exact sum_Part.mono _ _
      | exact LeO.none _
      | refine LeO.ite ?_ ?_
      | refine LeO.bind ?_ (fun _ => ?_)
def mosaiclaw01_SumOrders.T12 : Bool × List (List Nat × List Nat) := (true, [([], []), ([], []), ([], []), ([], []), ([3], [3]), ([], []), ([], []), ([], []), ([], []), ([8], [8]), ([], []), ([], []), ([10, 11], [10, 11]), ([12], [12]), ([], []), ([], []), ([15], [15]), ([14, 16], [14, 16]), ([17], [17]), ([], []), ([], []), ([19, 20], [19, 20]), ([21], [21]), ([], []), ([], []), ([24], [24]), ([23, 25], [23, 25]), ([26], [26]), ([0, 1, 0, 1, 10, 11, 12, 13, 18, 22, 27], [0, 1]), ([28, 13, 0, 1, 10, 11, 12, 13, 18, 22, 27], [13, 28]), ([2, 4, 0, 1, 2, 3, 4, 10, 11, 12, 13, 14, 15, 16, 17, 18, 22, 27, 28, 29], [2, 4]), ([30, 18, 29, 0, 1, 2, 3, 4, 10, 11, 12, 13, 14, 15, 16, 17, 18, 22, 27, 28, 29], [18, 30]), ([5, 6, 0, 1, 2, 3, 4, 5, 6, 10, 11, 12, 13, 14, 15, 16, 17, 18, 19, 20, 21, 22, 27, 28, 29, 30, 31], [5, 6]), ([32, 22, 31, 0, 1, 2, 3, 4, 5, 6, 10, 11, 12, 13, 14, 15, 16, 17, 18, 19, 20, 21, 22, 27, 28, 29, 30, 31], [22, 32]), ([7, 9, 0, 1, 2, 3, 4, 5, 6, 7, 8, 9, 10, 11, 12, 13, 14, 15, 16, 17, 18, 19, 20, 21, 22, 23, 24, 25, 26, 27, 28, 29, 30, 31, 32, 33], [7, 9]), ([34, 27, 33, 0, 1, 2, 3, 4, 5, 6, 7, 8, 9, 10, 11, 12, 13, 14, 15, 16, 17, 18, 19, 20, 21, 22, 23, 24, 25, 26, 27, 28, 29, 30, 31, 32, 33], [27, 34])])
def mosaiclaw01_SumOrders.B12 : List Nat := [0, 0, 0, 0, 8, 0, 0, 0, 0, 256, 0, 0, 3072, 7168, 0, 0, 32768, 114688, 245760, 0, 0, 1572864, 3670016, 0, 0, 16777216, 58720256, 125829120, 268434435, 536869891, 1073740831, 2147482655, 4294966399, 8589933695, 17179869183, 34359738367]
theorem mosaiclaw01_SumOrders.tab12 : rtab .any (opsOf Try.f5 12) = mosaiclaw01_SumOrders.T12 := by kernel_rfl
theorem mosaiclaw01_SumOrders.bits12 : waitsOk mosaiclaw01_SumOrders.T12.2 mosaiclaw01_SumOrders.B12 = true := by kernel_rfl
set_option maxHeartbeats 8000000 in
set_option maxRecDepth 100000 in
theorem mosaiclaw01_SumOrders.calls (k : Nat) (A0 : Option Addr) (c0 : Nat) (l0 : List Int) (a1 : Int) (a2 : Int) (r : Bool) (w : World) (hr0 : Kd.C (Kd.int .u8) w A0 l0.length l0) (hc0 : l0.length ≤ c0) (h : mosaiclaw01_SumOrders.f k l0 a1 a2 = some r) :
    Calls Try.prog 5 #[.slice A0 l0.length c0, .int .i64 a1, .int .i64 a2] w fun e w' => e = .returned (.bool r) ∧ Below w.heap.size w w' := by
  have HR0 := Aside0.mk hr0
  have HC0 := Aside0.mk hc0
  clear hr0 hc0
  have HB := Aside0.mk (Below.refl w.heap.size w)
  have H : ((mosaiclaw01_known.f k).bind fun t166 => (if t166 = true then ((sum_Part.f k l0).bind fun t167 => ((mosaiclaw01_swapped.f k l0).bind fun t168 => ((sum_Part.f k t168).bind fun t171 => (if t171 = (Go.bits .or .u16 (IntKind.u16.wrap (t167 * 256)) (t167 / 256)) then ((sum_Of.f k l0).bind fun t172 => (mosaiclaw01_SumOrders.j0 k l0 a1 a2 t167 (t172 != (IntKind.u16.wrap (65535 - t167))))) else (mosaiclaw01_SumOrders.j0 k l0 a1 a2 t167 true))))) else (some false))) = some r := h
  clear h
  replace H := Option.bind_eq_some_iff.mp H
  obtain ⟨t166, A40, H⟩ := H
  replace H : (if t166 = true then ((sum_Part.f k l0).bind fun t167 => ((mosaiclaw01_swapped.f k l0).bind fun t168 => ((sum_Part.f k t168).bind fun t171 => (if t171 = (Go.bits .or .u16 (IntKind.u16.wrap (t167 * 256)) (t167 / 256)) then ((sum_Of.f k l0).bind fun t172 => (mosaiclaw01_SumOrders.j0 k l0 a1 a2 t167 (t172 != (IntKind.u16.wrap (65535 - t167))))) else (mosaiclaw01_SumOrders.j0 k l0 a1 a2 t167 true))))) else (some false)) = some r := H
  have A4 := Aside0.mk A40
  clear A40
  by_cases c5 : t166 = true
  · subst c5
    have H1 : ((sum_Part.f k l0).bind fun t167 => ((mosaiclaw01_swapped.f k l0).bind fun t168 => ((sum_Part.f k t168).bind fun t171 => (if t171 = (Go.bits .or .u16 (IntKind.u16.wrap (t167 * 256)) (t167 / 256)) then ((sum_Of.f k l0).bind fun t172 => (mosaiclaw01_SumOrders.j0 k l0 a1 a2 t167 (t172 != (IntKind.u16.wrap (65535 - t167))))) else (mosaiclaw01_SumOrders.j0 k l0 a1 a2 t167 true))))) = some r := by rw [if_pos rfl] at H; exact H
    clear H
    have H := H1
    clear H1
    replace H := Option.bind_eq_some_iff.mp H
    obtain ⟨t167, A60, H⟩ := H
    replace H : ((mosaiclaw01_swapped.f k l0).bind fun t168 => ((sum_Part.f k t168).bind fun t171 => (if t171 = (Go.bits .or .u16 (IntKind.u16.wrap (t167 * 256)) (t167 / 256)) then ((sum_Of.f k l0).bind fun t172 => (mosaiclaw01_SumOrders.j0 k l0 a1 a2 t167 (t172 != (IntKind.u16.wrap (65535 - t167))))) else (mosaiclaw01_SumOrders.j0 k l0 a1 a2 t167 true)))) = some r := H
    have A6 := Aside0.mk A60
    clear A60
    have HC7 := Aside0.mk H
    clear H
    go_enter Try.func5, Try.ntmps5
    go_upto_region 4 with (first | ((with_reducible refine gate_callee (f := 10) rfl ?_); refine goesL_ (some 12) rfl rfl Try.func10 (by kernel_rfl) rfl #[] rfl (by (try simp only [List.map_toArray, List.map_cons, List.map_nil]); first | done | rfl | (simp only [List.length_drop, List.length_take]; rfl)) ?_; (with_reducible refine (mosaiclaw01_known.calls k  true _ A4.out).mono ?_); rintro e w8 ⟨rfl, hb⟩; refine ⟨_, rfl, ?_⟩; have n0_ := Aside0.mk (below_step (by repeat (first | (with_reducible first | exact HB.out | apply below_alloc | apply pw_below_drewN | apply below_drew1) | exact HB.out)) hb); clear HB; have HB := n0_; clear n0_; (try clear hb); (try clear hb2); (try clear hk); (try clear hi)) | ((with_reducible refine gate_callee (f := 11) rfl ?_); refine goesL_ (some 15) rfl rfl Try.func11 (by kernel_rfl) rfl #[.slice A0 l0.length c0] rfl (by (try simp only [List.map_toArray, List.map_cons, List.map_nil]); first | done | rfl | (simp only [List.length_drop, List.length_take]; rfl)) ?_; (with_reducible refine (sum_Part.calls k (fun k_ => k_ < w.heap.size) _ _ l0 t167 _ ?side1 A6.out).mono ?_); (case side1 => exact Kd.V_mk HC0.out (Kd.F_below (Kd.C_F (Kd.heap_int .u8) HR0.out) (by repeat (first | (with_reducible first | exact HB.out | apply below_alloc | apply pw_below_drewN | apply below_drew1) | exact HB.out)))); rintro e w9 ⟨rfl, hb⟩; refine ⟨_, rfl, ?_⟩; have n0_ := Aside0.mk (below_step (by repeat (first | (with_reducible first | exact HB.out | apply below_alloc | apply pw_below_drewN | apply below_drew1) | exact HB.out)) hb); clear HB; have HB := n0_; clear n0_; (try clear hb); (try clear hb2); (try clear hk); (try clear hi)))
    (try simp only [Act.put, List.setIfInBounds_toArray, List.set_cons_zero, List.set_cons_succ])
    go_cut [31] (fun v31 wc => ∃ (kq : Nat) (x31_6 : Bool), v31 = .bool x31_6 ∧ Aside0 (mosaiclaw01_SumOrders.j0 kq l0 a1 a2 t167 x31_6 = some r) ∧ Aside0 (kq ≤ k) ∧ Aside0 (Below w.heap.size w wc))
    case first =>
      have H := HC7.out
      clear HC7
      replace H := Option.bind_eq_some_iff.mp H
      obtain ⟨t168, A100, H⟩ := H
      replace H : ((sum_Part.f k t168).bind fun t171 => (if t171 = (Go.bits .or .u16 (IntKind.u16.wrap (t167 * 256)) (t167 / 256)) then ((sum_Of.f k l0).bind fun t172 => (mosaiclaw01_SumOrders.j0 k l0 a1 a2 t167 (t172 != (IntKind.u16.wrap (65535 - t167))))) else (mosaiclaw01_SumOrders.j0 k l0 a1 a2 t167 true))) = some r := H
      have A10 := Aside0.mk A100
      clear A100
      replace H := Option.bind_eq_some_iff.mp H
      obtain ⟨t171, A110, H⟩ := H
      replace H : (if t171 = (Go.bits .or .u16 (IntKind.u16.wrap (t167 * 256)) (t167 / 256)) then ((sum_Of.f k l0).bind fun t172 => (mosaiclaw01_SumOrders.j0 k l0 a1 a2 t167 (t172 != (IntKind.u16.wrap (65535 - t167))))) else (mosaiclaw01_SumOrders.j0 k l0 a1 a2 t167 true)) = some r := H
      have A11 := Aside0.mk A110
      clear A110
      by_cases c12 : t171 = (Go.bits .or .u16 (IntKind.u16.wrap (t167 * 256)) (t167 / 256))
      · rw [if_pos c12] at H
        have c12b0 : (t171 == (Go.bits .or .u16 (IntKind.u16.wrap (t167 * 256)) (t167 / 256))) = true := beq_iff_eq.mpr c12
        have c12b1 : (t171 != (Go.bits .or .u16 (IntKind.u16.wrap (t167 * 256)) (t167 / 256))) = false := bne_eq_false_iff_eq.mpr c12
        clear c12
        (first | rw [c12b0] | (simp only [i64_w, i32_w]; rw [c12b0]) | skip)
        replace H := Option.bind_eq_some_iff.mp H
        obtain ⟨t172, A130, H⟩ := H
        replace H : (mosaiclaw01_SumOrders.j0 k l0 a1 a2 t167 (t172 != (IntKind.u16.wrap (65535 - t167)))) = some r := H
        have A13 := Aside0.mk A130
        clear A130
        have H' := Aside0.mk H
        clear H
        go_wp2_with (first | ((with_reducible refine gate_callee (f := 15) rfl ?_); refine goesL_ (some 17) rfl rfl Try.func15 (by kernel_rfl) rfl #[.slice A0 l0.length c0] rfl (by (try simp only [List.map_toArray, List.map_cons, List.map_nil]); first | done | rfl | (simp only [List.length_drop, List.length_take]; rfl)) ?_; (with_reducible refine (mosaiclaw01_swapped.calls k _ _ l0 t168 _ ?side1 ?side2 A10.out).mono ?_); (case side1 => repeat (first | exact (Kd.C_below HR0.out HB.out) | (with_reducible refine Kd.C_alloc ?_ _) | (with_reducible refine Kd.C_drewN ?_ _) | (with_reducible refine Kd.C_drew ?_))); (case side2 => exact HC0.out); rintro e w14 ⟨v169, rfl, ho0, hb⟩; refine ⟨_, rfl, ?_⟩; have n0_ := Aside0.mk (Kd.R_lower ho0 (below_size (by repeat (first | (with_reducible first | exact HB.out | apply below_alloc | apply pw_below_drewN | apply below_drew1) | exact HB.out)))); have n1_ := Aside0.mk (below_step (by repeat (first | (with_reducible first | exact HB.out | apply below_alloc | apply pw_below_drewN | apply below_drew1) | exact HB.out)) hb); clear HB; have HO170 := n0_; have HB := n1_; clear n0_ n1_; (try clear hb); (try clear hb2); (try clear hk); (try clear hi); (try clear ho0); obtain ⟨Ao15, co15, eo15⟩ := Kd.R_slice HO170.out; subst eo15) | ((with_reducible refine gate_callee (f := 11) rfl ?_); refine goesL_ (some 18) rfl rfl Try.func11 (by kernel_rfl) rfl #[.slice Ao15 t168.length co15] rfl (by (try simp only [List.map_toArray, List.map_cons, List.map_nil]); first | done | rfl | (simp only [List.length_drop, List.length_take]; rfl)) ?_; (with_reducible refine (sum_Part.calls k (fun k_ => some k_ = (.slice Ao15 t168.length co15 : Value).ownBlock) _ _ t168 t171 _ ?side1 A11.out).mono ?_); (case side1 => exact Kd.R_V (Kd.R_tight rfl (HO170.out))); rintro e w16 ⟨rfl, hb⟩; refine ⟨_, rfl, ?_⟩; have n0_ := Aside0.mk (Kd.R_below (by (with_reducible repeat (first | apply Kd.R_alloc | apply Kd.R_drewN | apply Kd.R_drew)); exact HO170.out) hb); have n1_ := Aside0.mk (below_step (by repeat (first | (with_reducible first | exact HB.out | apply below_alloc | apply pw_below_drewN | apply below_drew1) | exact HB.out)) hb); clear HO170; clear HB; have HO170 := n0_; have HB := n1_; clear n0_ n1_; (try clear hb); (try clear hb2); (try clear hk); (try clear hi)) | (go_at_call 16; (with_reducible refine (sum_Of.calls k _ _ l0 t172 _ ?side1 ?side2 A13.out).mono ?_); (case side1 => repeat (first | exact (Kd.C_below HR0.out HB.out) | (with_reducible refine Kd.C_alloc ?_ _) | (with_reducible refine Kd.C_drewN ?_ _) | (with_reducible refine Kd.C_drew ?_))); (case side2 => exact HC0.out); rintro e w17 ⟨rfl, hb⟩; have n0_ := Aside0.mk (Kd.R_below (by (with_reducible repeat (first | apply Kd.R_alloc | apply Kd.R_drewN | apply Kd.R_drew)); exact HO170.out) hb); have n1_ := Aside0.mk (below_step (by repeat (first | (with_reducible first | exact HB.out | apply below_alloc | apply pw_below_drewN | apply below_drew1) | exact HB.out)) hb); clear HO170; clear HB; have HO170 := n0_; have HB := n1_; clear n0_ n1_; (try clear hb); (try clear hb2); (try clear hk); (try clear hi)))
        go_meet
        case rel => exact ⟨_, ((t172 != (IntKind.u16.wrap (65535 - t167)))), (by first | rfl | (simp; done) | (simp [*]; done)), H', ⟨by first | omega | exact Nat.le_refl _⟩, ⟨by repeat (first | (with_reducible first | exact HB.out | apply below_alloc | apply pw_below_drewN | apply below_drew1) | exact HB.out)⟩⟩
      · rw [if_neg c12] at H
        have c12b0 : (t171 == (Go.bits .or .u16 (IntKind.u16.wrap (t167 * 256)) (t167 / 256))) = false := beq_eq_false_iff_ne.mpr c12
        have c12b1 : (t171 != (Go.bits .or .u16 (IntKind.u16.wrap (t167 * 256)) (t167 / 256))) = true := bne_iff_ne.mpr c12
        (first | rw [c12b0] | (simp only [i64_w, i32_w]; rw [c12b0]) | skip)
        have H' := Aside0.mk H
        clear H
        go_wp2_with (first | ((with_reducible refine gate_callee (f := 15) rfl ?_); refine goesL_ (some 17) rfl rfl Try.func15 (by kernel_rfl) rfl #[.slice A0 l0.length c0] rfl (by (try simp only [List.map_toArray, List.map_cons, List.map_nil]); first | done | rfl | (simp only [List.length_drop, List.length_take]; rfl)) ?_; (with_reducible refine (mosaiclaw01_swapped.calls k _ _ l0 t168 _ ?side1 ?side2 A10.out).mono ?_); (case side1 => repeat (first | exact (Kd.C_below HR0.out HB.out) | (with_reducible refine Kd.C_alloc ?_ _) | (with_reducible refine Kd.C_drewN ?_ _) | (with_reducible refine Kd.C_drew ?_))); (case side2 => exact HC0.out); rintro e w18 ⟨v169, rfl, ho0, hb⟩; refine ⟨_, rfl, ?_⟩; have n0_ := Aside0.mk (Kd.R_lower ho0 (below_size (by repeat (first | (with_reducible first | exact HB.out | apply below_alloc | apply pw_below_drewN | apply below_drew1) | exact HB.out)))); have n1_ := Aside0.mk (below_step (by repeat (first | (with_reducible first | exact HB.out | apply below_alloc | apply pw_below_drewN | apply below_drew1) | exact HB.out)) hb); clear HB; have HO170 := n0_; have HB := n1_; clear n0_ n1_; (try clear hb); (try clear hb2); (try clear hk); (try clear hi); (try clear ho0); obtain ⟨Ao19, co19, eo19⟩ := Kd.R_slice HO170.out; subst eo19) | ((with_reducible refine gate_callee (f := 11) rfl ?_); refine goesL_ (some 18) rfl rfl Try.func11 (by kernel_rfl) rfl #[.slice Ao19 t168.length co19] rfl (by (try simp only [List.map_toArray, List.map_cons, List.map_nil]); first | done | rfl | (simp only [List.length_drop, List.length_take]; rfl)) ?_; (with_reducible refine (sum_Part.calls k (fun k_ => some k_ = (.slice Ao19 t168.length co19 : Value).ownBlock) _ _ t168 t171 _ ?side1 A11.out).mono ?_); (case side1 => exact Kd.R_V (Kd.R_tight rfl (HO170.out))); rintro e w20 ⟨rfl, hb⟩; refine ⟨_, rfl, ?_⟩; have n0_ := Aside0.mk (Kd.R_below (by (with_reducible repeat (first | apply Kd.R_alloc | apply Kd.R_drewN | apply Kd.R_drew)); exact HO170.out) hb); have n1_ := Aside0.mk (below_step (by repeat (first | (with_reducible first | exact HB.out | apply below_alloc | apply pw_below_drewN | apply below_drew1) | exact HB.out)) hb); clear HO170; clear HB; have HO170 := n0_; have HB := n1_; clear n0_ n1_; (try clear hb); (try clear hb2); (try clear hk); (try clear hi)))
        go_meet
        case rel => exact ⟨_, (true), (by first | rfl | (simp; done) | (simp [*]; done)), H', ⟨by first | omega | exact Nat.le_refl _⟩, ⟨by repeat (first | (with_reducible first | exact HB.out | apply below_alloc | apply pw_below_drewN | apply below_drew1) | exact HB.out)⟩⟩
    case rest =>
      clear HC7
      try clear c1
      try clear p2
      try clear c5
      try clear c10
      try clear c11
      try clear c12
      try clear c12b0
      try clear c12b1
      try clear c15
      obtain ⟨kq, x31_6, rfl, HA, HJ6, HB⟩ := hcut
      cases kq with
      | zero => exact absurd HA.out (by simp [mosaiclaw01_SumOrders.j0])
      | succ kj6 =>
        have H := HA.out
        clear HA
        simp only [mosaiclaw01_SumOrders.j0] at H
        by_cases c21 : x31_6 = true
        · subst c21
          have H1 : (some false) = some r := by rw [if_pos rfl] at H; exact H
          clear H
          have H := H1
          clear H1
          obtain rfl := Option.some.inj H
          go_wp2
          go_ret
          exact ⟨by first | rfl | (simp [errW_none, errW_some] <;> rfl) | (simp [*, errW_none, errW_some] <;> rfl), by repeat (first | (with_reducible first | exact HB.out | apply below_alloc | apply pw_below_drewN | apply below_drew1) | exact HB.out)⟩
        · replace c21 := Bool.eq_false_iff.mpr c21
          subst c21
          have H1 : (if (wrap64 ((l0.length : Int) / 2)) = 0 then (if (l0.length : Int) = 1 then (if 0 < (l0.length : Int) then (if t167 = (IntKind.u16.wrap ((IntKind.u16.wrap (rd l0 0)) * 256)) then (some true) else (if (l0.length : Int) = 0 then (some (t167 == 0)) else (some false))) else (none)) else (if (l0.length : Int) = 0 then (some (t167 == 0)) else (some false))) else ((mosaiclaw01_own.f l0).bind fun t174 => ((mosaiclaw01_rest.f a1 (wrap64 ((wrap64 ((l0.length : Int) / 2)) - 1))).bind fun t177 => ((mosaiclaw01_rest.f a2 (wrap64 ((wrap64 ((l0.length : Int) / 2)) - 1))).bind fun t178 => (if 0 ≤ (wrap64 (2 * t178)) then (if (wrap64 (2 * t178)) < (l0.length : Int) then (if 0 ≤ (wrap64 ((wrap64 (2 * t178)) + 1)) then (if (wrap64 ((wrap64 (2 * t178)) + 1)) < (l0.length : Int) then (if 0 ≤ (wrap64 (2 * t177)) then (if (wrap64 (2 * t177)) < (l0.length : Int) then (if 0 ≤ (wrap64 ((wrap64 (2 * t177)) + 1)) then (if (wrap64 ((wrap64 (2 * t177)) + 1)) < (l0.length : Int) then (if (wrap64 (2 * t177)) < (t174.length : Int) then (if (wrap64 ((wrap64 (2 * t177)) + 1)) < (t174.length : Int) then (if (wrap64 (2 * t178)) < (t174.length : Int) then (if (wrap64 ((wrap64 (2 * t178)) + 1)) < (t174.length : Int) then ((sum_Part.f kj6 ((((t174.set ((wrap64 (2 * t177)) : Int).toNat (rd l0 (wrap64 (2 * t178)))).set ((wrap64 ((wrap64 (2 * t177)) + 1)) : Int).toNat (rd l0 (wrap64 ((wrap64 (2 * t178)) + 1)))).set ((wrap64 (2 * t178)) : Int).toNat (rd l0 (wrap64 (2 * t177)))).set ((wrap64 ((wrap64 (2 * t178)) + 1)) : Int).toNat (rd l0 (wrap64 ((wrap64 (2 * t177)) + 1))))).bind fun t187 => (some (t187 == t167))) else (none)) else (none)) else (none)) else (none)) else (none)) else (none)) else (none)) else (none)) else (none)) else (none)) else (none)) else (none)))))) = some r := by rw [if_neg (show ¬ (false = true) by decide)] at H; exact H
          clear H
          have H := H1
          clear H1
          by_cases c22 : (wrap64 ((l0.length : Int) / 2)) = 0
          · rw [if_pos c22] at H
            have c22b0 : ((wrap64 ((l0.length : Int) / 2)) == 0) = true := beq_iff_eq.mpr c22
            have c22b1 : ((wrap64 ((l0.length : Int) / 2)) != 0) = false := bne_eq_false_iff_eq.mpr c22
            clear c22
            by_cases c23 : (l0.length : Int) = 1
            · rw [if_pos c23] at H
              have c23b0 : ((l0.length : Int) == 1) = true := beq_iff_eq.mpr c23
              have c23b1 : ((l0.length : Int) != 1) = false := bne_eq_false_iff_eq.mpr c23
              clear c23
              by_cases c24 : 0 < (l0.length : Int)
              · rw [if_pos c24] at H
                have c24b0 : decide (0 < (l0.length : Int)) = true := decide_eq_true c24
                have c24b1 : decide (0 < l0.length) = true := decide_eq_true (by omega)
                clear c24
                by_cases c25 : t167 = (IntKind.u16.wrap ((IntKind.u16.wrap (rd l0 0)) * 256))
                · rw [if_pos c25] at H
                  have c25b0 : (t167 == (IntKind.u16.wrap ((IntKind.u16.wrap (rd l0 0)) * 256))) = true := beq_iff_eq.mpr c25
                  have c25b1 : (t167 != (IntKind.u16.wrap ((IntKind.u16.wrap (rd l0 0)) * 256))) = false := bne_eq_false_iff_eq.mpr c25
                  clear c25
                  obtain rfl := Option.some.inj H
                  have p173 : 0 ≤ (0 : Int) := (by omega)
                  have q173 : 0 < (l0.length : Int) := of_decide_eq_true (by first | (with_reducible assumption) | assumption)
                  obtain ⟨ad173, e173, hx173_0⟩ := Kd.at_int HR0.out 0 p173 q173
                  cases e173
                  have qi173 : (0 < l0.length) = True := eq_true (by omega)
                  (try rw [show ((0 : Int)).toNat = 0 from rfl] at hx173_0)
                  (try rw [Addr.add_zero'] at hx173_0)
                  replace hx173_0 := (HB.out.cell (World.block_lt_of_cell? w _ hx173_0)).trans hx173_0
                  replace p173 := eq_true p173
                  replace q173 := eq_true q173
                  go_wp2
                  go_ret
                  exact ⟨by first | rfl | (simp [errW_none, errW_some] <;> rfl) | (simp [*, errW_none, errW_some] <;> rfl), by repeat (first | (with_reducible first | exact HB.out | apply below_alloc | apply pw_below_drewN | apply below_drew1) | exact HB.out)⟩
                · rw [if_neg c25] at H
                  have c25b0 : (t167 == (IntKind.u16.wrap ((IntKind.u16.wrap (rd l0 0)) * 256))) = false := beq_eq_false_iff_ne.mpr c25
                  have c25b1 : (t167 != (IntKind.u16.wrap ((IntKind.u16.wrap (rd l0 0)) * 256))) = true := bne_iff_ne.mpr c25
                  by_cases c26 : (l0.length : Int) = 0
                  · rw [if_pos c26] at H
                    have c26b0 : ((l0.length : Int) == 0) = true := beq_iff_eq.mpr c26
                    have c26b1 : ((l0.length : Int) != 0) = false := bne_eq_false_iff_eq.mpr c26
                    clear c26
                    obtain rfl := Option.some.inj H
                    have p173 : 0 ≤ (0 : Int) := (by omega)
                    have q173 : 0 < (l0.length : Int) := of_decide_eq_true (by first | (with_reducible assumption) | assumption)
                    obtain ⟨ad173, e173, hx173_0⟩ := Kd.at_int HR0.out 0 p173 q173
                    cases e173
                    have qi173 : (0 < l0.length) = True := eq_true (by omega)
                    (try rw [show ((0 : Int)).toNat = 0 from rfl] at hx173_0)
                    (try rw [Addr.add_zero'] at hx173_0)
                    replace hx173_0 := (HB.out.cell (World.block_lt_of_cell? w _ hx173_0)).trans hx173_0
                    replace p173 := eq_true p173
                    replace q173 := eq_true q173
                    go_wp2
                    go_ret
                    exact ⟨by first | rfl | (simp [errW_none, errW_some] <;> rfl) | (simp [*, errW_none, errW_some] <;> rfl), by repeat (first | (with_reducible first | exact HB.out | apply below_alloc | apply pw_below_drewN | apply below_drew1) | exact HB.out)⟩
                  · rw [if_neg c26] at H
                    have c26b0 : ((l0.length : Int) == 0) = false := beq_eq_false_iff_ne.mpr c26
                    have c26b1 : ((l0.length : Int) != 0) = true := bne_iff_ne.mpr c26
                    have c26b2 : ¬ (l0 = []) := fun h_ => c26 (by rw [h_]; rfl)
                    obtain rfl := Option.some.inj H
                    have p173 : 0 ≤ (0 : Int) := (by omega)
                    have q173 : 0 < (l0.length : Int) := of_decide_eq_true (by first | (with_reducible assumption) | assumption)
                    obtain ⟨ad173, e173, hx173_0⟩ := Kd.at_int HR0.out 0 p173 q173
                    cases e173
                    have qi173 : (0 < l0.length) = True := eq_true (by omega)
                    (try rw [show ((0 : Int)).toNat = 0 from rfl] at hx173_0)
                    (try rw [Addr.add_zero'] at hx173_0)
                    replace hx173_0 := (HB.out.cell (World.block_lt_of_cell? w _ hx173_0)).trans hx173_0
                    replace p173 := eq_true p173
                    replace q173 := eq_true q173
                    go_wp2
                    go_ret
                    exact ⟨by first | rfl | (simp [errW_none, errW_some] <;> rfl) | (simp [*, errW_none, errW_some] <;> rfl), by repeat (first | (with_reducible first | exact HB.out | apply below_alloc | apply pw_below_drewN | apply below_drew1) | exact HB.out)⟩
              · rw [if_neg c24] at H
                exact absurd H (by simp)
            · rw [if_neg c23] at H
              have c23b0 : ((l0.length : Int) == 1) = false := beq_eq_false_iff_ne.mpr c23
              have c23b1 : ((l0.length : Int) != 1) = true := bne_iff_ne.mpr c23
              by_cases c27 : (l0.length : Int) = 0
              · rw [if_pos c27] at H
                have c27b0 : ((l0.length : Int) == 0) = true := beq_iff_eq.mpr c27
                have c27b1 : ((l0.length : Int) != 0) = false := bne_eq_false_iff_eq.mpr c27
                clear c27
                obtain rfl := Option.some.inj H
                go_wp2
                go_ret
                exact ⟨by first | rfl | (simp [errW_none, errW_some] <;> rfl) | (simp [*, errW_none, errW_some] <;> rfl), by repeat (first | (with_reducible first | exact HB.out | apply below_alloc | apply pw_below_drewN | apply below_drew1) | exact HB.out)⟩
              · rw [if_neg c27] at H
                have c27b0 : ((l0.length : Int) == 0) = false := beq_eq_false_iff_ne.mpr c27
                have c27b1 : ((l0.length : Int) != 0) = true := bne_iff_ne.mpr c27
                have c27b2 : ¬ (l0 = []) := fun h_ => c27 (by rw [h_]; rfl)
                obtain rfl := Option.some.inj H
                go_wp2
                go_ret
                exact ⟨by first | rfl | (simp [errW_none, errW_some] <;> rfl) | (simp [*, errW_none, errW_some] <;> rfl), by repeat (first | (with_reducible first | exact HB.out | apply below_alloc | apply pw_below_drewN | apply below_drew1) | exact HB.out)⟩
          · rw [if_neg c22] at H
            have c22b0 : ((wrap64 ((l0.length : Int) / 2)) == 0) = false := beq_eq_false_iff_ne.mpr c22
            have c22b1 : ((wrap64 ((l0.length : Int) / 2)) != 0) = true := bne_iff_ne.mpr c22
            replace H := Option.bind_eq_some_iff.mp H
            obtain ⟨t174, A280, H⟩ := H
            replace H : ((mosaiclaw01_rest.f a1 (wrap64 ((wrap64 ((l0.length : Int) / 2)) - 1))).bind fun t177 => ((mosaiclaw01_rest.f a2 (wrap64 ((wrap64 ((l0.length : Int) / 2)) - 1))).bind fun t178 => (if 0 ≤ (wrap64 (2 * t178)) then (if (wrap64 (2 * t178)) < (l0.length : Int) then (if 0 ≤ (wrap64 ((wrap64 (2 * t178)) + 1)) then (if (wrap64 ((wrap64 (2 * t178)) + 1)) < (l0.length : Int) then (if 0 ≤ (wrap64 (2 * t177)) then (if (wrap64 (2 * t177)) < (l0.length : Int) then (if 0 ≤ (wrap64 ((wrap64 (2 * t177)) + 1)) then (if (wrap64 ((wrap64 (2 * t177)) + 1)) < (l0.length : Int) then (if (wrap64 (2 * t177)) < (t174.length : Int) then (if (wrap64 ((wrap64 (2 * t177)) + 1)) < (t174.length : Int) then (if (wrap64 (2 * t178)) < (t174.length : Int) then (if (wrap64 ((wrap64 (2 * t178)) + 1)) < (t174.length : Int) then ((sum_Part.f kj6 ((((t174.set ((wrap64 (2 * t177)) : Int).toNat (rd l0 (wrap64 (2 * t178)))).set ((wrap64 ((wrap64 (2 * t177)) + 1)) : Int).toNat (rd l0 (wrap64 ((wrap64 (2 * t178)) + 1)))).set ((wrap64 (2 * t178)) : Int).toNat (rd l0 (wrap64 (2 * t177)))).set ((wrap64 ((wrap64 (2 * t178)) + 1)) : Int).toNat (rd l0 (wrap64 ((wrap64 (2 * t177)) + 1))))).bind fun t187 => (some (t187 == t167))) else (none)) else (none)) else (none)) else (none)) else (none)) else (none)) else (none)) else (none)) else (none)) else (none)) else (none)) else (none)))) = some r := H
            have A28 := Aside0.mk A280
            clear A280
            replace H := Option.bind_eq_some_iff.mp H
            obtain ⟨t177, A290, H⟩ := H
            replace H : ((mosaiclaw01_rest.f a2 (wrap64 ((wrap64 ((l0.length : Int) / 2)) - 1))).bind fun t178 => (if 0 ≤ (wrap64 (2 * t178)) then (if (wrap64 (2 * t178)) < (l0.length : Int) then (if 0 ≤ (wrap64 ((wrap64 (2 * t178)) + 1)) then (if (wrap64 ((wrap64 (2 * t178)) + 1)) < (l0.length : Int) then (if 0 ≤ (wrap64 (2 * t177)) then (if (wrap64 (2 * t177)) < (l0.length : Int) then (if 0 ≤ (wrap64 ((wrap64 (2 * t177)) + 1)) then (if (wrap64 ((wrap64 (2 * t177)) + 1)) < (l0.length : Int) then (if (wrap64 (2 * t177)) < (t174.length : Int) then (if (wrap64 ((wrap64 (2 * t177)) + 1)) < (t174.length : Int) then (if (wrap64 (2 * t178)) < (t174.length : Int) then (if (wrap64 ((wrap64 (2 * t178)) + 1)) < (t174.length : Int) then ((sum_Part.f kj6 ((((t174.set ((wrap64 (2 * t177)) : Int).toNat (rd l0 (wrap64 (2 * t178)))).set ((wrap64 ((wrap64 (2 * t177)) + 1)) : Int).toNat (rd l0 (wrap64 ((wrap64 (2 * t178)) + 1)))).set ((wrap64 (2 * t178)) : Int).toNat (rd l0 (wrap64 (2 * t177)))).set ((wrap64 ((wrap64 (2 * t178)) + 1)) : Int).toNat (rd l0 (wrap64 ((wrap64 (2 * t177)) + 1))))).bind fun t187 => (some (t187 == t167))) else (none)) else (none)) else (none)) else (none)) else (none)) else (none)) else (none)) else (none)) else (none)) else (none)) else (none)) else (none))) = some r := H
            have A29 := Aside0.mk A290
            clear A290
            replace H := Option.bind_eq_some_iff.mp H
            obtain ⟨t178, A300, H⟩ := H
            replace H : (if 0 ≤ (wrap64 (2 * t178)) then (if (wrap64 (2 * t178)) < (l0.length : Int) then (if 0 ≤ (wrap64 ((wrap64 (2 * t178)) + 1)) then (if (wrap64 ((wrap64 (2 * t178)) + 1)) < (l0.length : Int) then (if 0 ≤ (wrap64 (2 * t177)) then (if (wrap64 (2 * t177)) < (l0.length : Int) then (if 0 ≤ (wrap64 ((wrap64 (2 * t177)) + 1)) then (if (wrap64 ((wrap64 (2 * t177)) + 1)) < (l0.length : Int) then (if (wrap64 (2 * t177)) < (t174.length : Int) then (if (wrap64 ((wrap64 (2 * t177)) + 1)) < (t174.length : Int) then (if (wrap64 (2 * t178)) < (t174.length : Int) then (if (wrap64 ((wrap64 (2 * t178)) + 1)) < (t174.length : Int) then ((sum_Part.f kj6 ((((t174.set ((wrap64 (2 * t177)) : Int).toNat (rd l0 (wrap64 (2 * t178)))).set ((wrap64 ((wrap64 (2 * t177)) + 1)) : Int).toNat (rd l0 (wrap64 ((wrap64 (2 * t178)) + 1)))).set ((wrap64 (2 * t178)) : Int).toNat (rd l0 (wrap64 (2 * t177)))).set ((wrap64 ((wrap64 (2 * t178)) + 1)) : Int).toNat (rd l0 (wrap64 ((wrap64 (2 * t177)) + 1))))).bind fun t187 => (some (t187 == t167))) else (none)) else (none)) else (none)) else (none)) else (none)) else (none)) else (none)) else (none)) else (none)) else (none)) else (none)) else (none)) = some r := H
            have A30 := Aside0.mk A300
            clear A300
            obtain ⟨ji31, hji31⟩ : ∃ j_ : Int, (wrap64 (2 * t178)) = j_ := ⟨_, rfl⟩
            replace H : (if 0 ≤ (ji31) then (if (ji31) < (l0.length : Int) then (if 0 ≤ (wrap64 ((ji31) + 1)) then (if (wrap64 ((ji31) + 1)) < (l0.length : Int) then (if 0 ≤ (wrap64 (2 * t177)) then (if (wrap64 (2 * t177)) < (l0.length : Int) then (if 0 ≤ (wrap64 ((wrap64 (2 * t177)) + 1)) then (if (wrap64 ((wrap64 (2 * t177)) + 1)) < (l0.length : Int) then (if (wrap64 (2 * t177)) < (t174.length : Int) then (if (wrap64 ((wrap64 (2 * t177)) + 1)) < (t174.length : Int) then (if (ji31) < (t174.length : Int) then (if (wrap64 ((ji31) + 1)) < (t174.length : Int) then ((sum_Part.f kj6 ((((t174.set ((wrap64 (2 * t177)) : Int).toNat (rd l0 (ji31))).set ((wrap64 ((wrap64 (2 * t177)) + 1)) : Int).toNat (rd l0 (wrap64 ((ji31) + 1)))).set ((ji31) : Int).toNat (rd l0 (wrap64 (2 * t177)))).set ((wrap64 ((ji31) + 1)) : Int).toNat (rd l0 (wrap64 ((wrap64 (2 * t177)) + 1))))).bind fun t187 => (some (t187 == t167))) else (none)) else (none)) else (none)) else (none)) else (none)) else (none)) else (none)) else (none)) else (none)) else (none)) else (none)) else (none)) = some r := by first | (rw [hji31] at H; exact H) | (simp only [hji31] at H ⊢; exact H)
            (try rw [hji31] at A28)
            (try rw [hji31] at A29)
            (try rw [hji31] at A30)
            have hji31w : (IntKind.i64.wrap (2 * t178)) = ji31 := (i64_w _).trans hji31
            by_cases c32 : 0 ≤ (ji31)
            · rw [if_pos c32] at H
              have c32b0 : decide (0 ≤ (ji31)) = true := decide_eq_true c32
              clear c32
              by_cases c33 : (ji31) < (l0.length : Int)
              · rw [if_pos c33] at H
                have c33b0 : decide ((ji31) < (l0.length : Int)) = true := decide_eq_true c33
                clear c33
                obtain ⟨ji34, hji34⟩ : ∃ j_ : Int, (wrap64 ((ji31) + 1)) = j_ := ⟨_, rfl⟩
                replace H : (if 0 ≤ (ji34) then (if (ji34) < (l0.length : Int) then (if 0 ≤ (wrap64 (2 * t177)) then (if (wrap64 (2 * t177)) < (l0.length : Int) then (if 0 ≤ (wrap64 ((wrap64 (2 * t177)) + 1)) then (if (wrap64 ((wrap64 (2 * t177)) + 1)) < (l0.length : Int) then (if (wrap64 (2 * t177)) < (t174.length : Int) then (if (wrap64 ((wrap64 (2 * t177)) + 1)) < (t174.length : Int) then (if (ji31) < (t174.length : Int) then (if (ji34) < (t174.length : Int) then ((sum_Part.f kj6 ((((t174.set ((wrap64 (2 * t177)) : Int).toNat (rd l0 (ji31))).set ((wrap64 ((wrap64 (2 * t177)) + 1)) : Int).toNat (rd l0 (ji34))).set ((ji31) : Int).toNat (rd l0 (wrap64 (2 * t177)))).set ((ji34) : Int).toNat (rd l0 (wrap64 ((wrap64 (2 * t177)) + 1))))).bind fun t187 => (some (t187 == t167))) else (none)) else (none)) else (none)) else (none)) else (none)) else (none)) else (none)) else (none)) else (none)) else (none)) = some r := by first | (rw [hji34] at H; exact H) | (simp only [hji34] at H ⊢; exact H)
                (try rw [hji34] at A28)
                (try rw [hji34] at A29)
                (try rw [hji34] at A30)
                have hji34w : (IntKind.i64.wrap ((ji31) + 1)) = ji34 := (i64_w _).trans hji34
                by_cases c35 : 0 ≤ (ji34)
                · rw [if_pos c35] at H
                  have c35b0 : decide (0 ≤ (ji34)) = true := decide_eq_true c35
                  clear c35
                  by_cases c36 : (ji34) < (l0.length : Int)
                  · rw [if_pos c36] at H
                    have c36b0 : decide ((ji34) < (l0.length : Int)) = true := decide_eq_true c36
                    clear c36
                    obtain ⟨ji37, hji37⟩ : ∃ j_ : Int, (wrap64 (2 * t177)) = j_ := ⟨_, rfl⟩
                    replace H : (if 0 ≤ (ji37) then (if (ji37) < (l0.length : Int) then (if 0 ≤ (wrap64 ((ji37) + 1)) then (if (wrap64 ((ji37) + 1)) < (l0.length : Int) then (if (ji37) < (t174.length : Int) then (if (wrap64 ((ji37) + 1)) < (t174.length : Int) then (if (ji31) < (t174.length : Int) then (if (ji34) < (t174.length : Int) then ((sum_Part.f kj6 ((((t174.set ((ji37) : Int).toNat (rd l0 (ji31))).set ((wrap64 ((ji37) + 1)) : Int).toNat (rd l0 (ji34))).set ((ji31) : Int).toNat (rd l0 (ji37))).set ((ji34) : Int).toNat (rd l0 (wrap64 ((ji37) + 1))))).bind fun t187 => (some (t187 == t167))) else (none)) else (none)) else (none)) else (none)) else (none)) else (none)) else (none)) else (none)) = some r := by first | (rw [hji37] at H; exact H) | (simp only [hji37] at H ⊢; exact H)
                    (try rw [hji37] at A28)
                    (try rw [hji37] at A29)
                    (try rw [hji37] at A30)
                    have hji37w : (IntKind.i64.wrap (2 * t177)) = ji37 := (i64_w _).trans hji37
                    by_cases c38 : 0 ≤ (ji37)
                    · rw [if_pos c38] at H
                      have c38b0 : decide (0 ≤ (ji37)) = true := decide_eq_true c38
                      clear c38
                      by_cases c39 : (ji37) < (l0.length : Int)
                      · rw [if_pos c39] at H
                        have c39b0 : decide ((ji37) < (l0.length : Int)) = true := decide_eq_true c39
                        clear c39
                        obtain ⟨ji40, hji40⟩ : ∃ j_ : Int, (wrap64 ((ji37) + 1)) = j_ := ⟨_, rfl⟩
                        replace H : (if 0 ≤ (ji40) then (if (ji40) < (l0.length : Int) then (if (ji37) < (t174.length : Int) then (if (ji40) < (t174.length : Int) then (if (ji31) < (t174.length : Int) then (if (ji34) < (t174.length : Int) then ((sum_Part.f kj6 ((((t174.set ((ji37) : Int).toNat (rd l0 (ji31))).set ((ji40) : Int).toNat (rd l0 (ji34))).set ((ji31) : Int).toNat (rd l0 (ji37))).set ((ji34) : Int).toNat (rd l0 (ji40)))).bind fun t187 => (some (t187 == t167))) else (none)) else (none)) else (none)) else (none)) else (none)) else (none)) = some r := by first | (rw [hji40] at H; exact H) | (simp only [hji40] at H ⊢; exact H)
                        (try rw [hji40] at A28)
                        (try rw [hji40] at A29)
                        (try rw [hji40] at A30)
                        have hji40w : (IntKind.i64.wrap ((ji37) + 1)) = ji40 := (i64_w _).trans hji40
                        by_cases c41 : 0 ≤ (ji40)
                        · rw [if_pos c41] at H
                          have c41b0 : decide (0 ≤ (ji40)) = true := decide_eq_true c41
                          clear c41
                          by_cases c42 : (ji40) < (l0.length : Int)
                          · rw [if_pos c42] at H
                            have c42b0 : decide ((ji40) < (l0.length : Int)) = true := decide_eq_true c42
                            clear c42
                            by_cases c43 : (ji37) < (t174.length : Int)
                            · rw [if_pos c43] at H
                              have c43b0 : decide ((ji37) < (t174.length : Int)) = true := decide_eq_true c43
                              clear c43
                              obtain ⟨y183, hy183⟩ : ∃ y_ : List Int, y_ = (t174.set ((ji37) : Int).toNat (rd l0 (ji31))) := ⟨_, rfl⟩
                              replace H : (if (ji40) < (t174.length : Int) then (if (ji31) < (t174.length : Int) then (if (ji34) < (t174.length : Int) then ((sum_Part.f kj6 (((y183.set ((ji40) : Int).toNat (rd l0 (ji34))).set ((ji31) : Int).toNat (rd l0 (ji37))).set ((ji34) : Int).toNat (rd l0 (ji40)))).bind fun t187 => (some (t187 == t167))) else (none)) else (none)) else (none)) = some r := by first | (rw [hy183]; with_reducible exact H) | (have H2_ := (Option.bind_some _ _).symm.trans H; rw [hy183]; with_reducible exact H2_) | (have H2_ := (Option.bind_some _ _).symm.trans H; with_reducible exact H2_) | with_reducible exact H | (rw [hy183]; exact H) | exact H
                              have Ny183 := Aside0.mk hy183
                              clear hy183
                              by_cases c45 : (ji40) < (t174.length : Int)
                              · rw [if_pos c45] at H
                                have c45b0 : decide ((ji40) < (t174.length : Int)) = true := decide_eq_true c45
                                clear c45
                                obtain ⟨y184, hy184⟩ : ∃ y_ : List Int, y_ = (y183.set ((ji40) : Int).toNat (rd l0 (ji34))) := ⟨_, rfl⟩
                                replace H : (if (ji31) < (t174.length : Int) then (if (ji34) < (t174.length : Int) then ((sum_Part.f kj6 ((y184.set ((ji31) : Int).toNat (rd l0 (ji37))).set ((ji34) : Int).toNat (rd l0 (ji40)))).bind fun t187 => (some (t187 == t167))) else (none)) else (none)) = some r := by first | (rw [hy184]; with_reducible exact H) | (have H2_ := (Option.bind_some _ _).symm.trans H; rw [hy184]; with_reducible exact H2_) | (have H2_ := (Option.bind_some _ _).symm.trans H; with_reducible exact H2_) | with_reducible exact H | (rw [hy184]; exact H) | exact H
                                have Ny184 := Aside0.mk hy184
                                clear hy184
                                by_cases c47 : (ji31) < (t174.length : Int)
                                · rw [if_pos c47] at H
                                  have c47b0 : decide ((ji31) < (t174.length : Int)) = true := decide_eq_true c47
                                  clear c47
                                  obtain ⟨y185, hy185⟩ : ∃ y_ : List Int, y_ = (y184.set ((ji31) : Int).toNat (rd l0 (ji37))) := ⟨_, rfl⟩
                                  replace H : (if (ji34) < (t174.length : Int) then ((sum_Part.f kj6 (y185.set ((ji34) : Int).toNat (rd l0 (ji40)))).bind fun t187 => (some (t187 == t167))) else (none)) = some r := by first | (rw [hy185]; with_reducible exact H) | (have H2_ := (Option.bind_some _ _).symm.trans H; rw [hy185]; with_reducible exact H2_) | (have H2_ := (Option.bind_some _ _).symm.trans H; with_reducible exact H2_) | with_reducible exact H | (rw [hy185]; exact H) | exact H
                                  have Ny185 := Aside0.mk hy185
                                  clear hy185
                                  by_cases c49 : (ji34) < (t174.length : Int)
                                  · rw [if_pos c49] at H
                                    have c49b0 : decide ((ji34) < (t174.length : Int)) = true := decide_eq_true c49
                                    clear c49
                                    obtain ⟨y186, hy186⟩ : ∃ y_ : List Int, y_ = (y185.set ((ji34) : Int).toNat (rd l0 (ji40))) := ⟨_, rfl⟩
                                    replace H : ((sum_Part.f kj6 y186).bind fun t187 => (some (t187 == t167))) = some r := by first | (rw [hy186]; with_reducible exact H) | (have H2_ := (Option.bind_some _ _).symm.trans H; rw [hy186]; with_reducible exact H2_) | (have H2_ := (Option.bind_some _ _).symm.trans H; with_reducible exact H2_) | with_reducible exact H | (rw [hy186]; exact H) | exact H
                                    have Ny186 := Aside0.mk hy186
                                    clear hy186
                                    replace H := Option.bind_eq_some_iff.mp H
                                    obtain ⟨t187, A510, H⟩ := H
                                    replace H : (some (t187 == t167)) = some r := H
                                    have A51 := Aside0.mk A510
                                    clear A510
                                    obtain rfl := Option.some.inj H
                                    try go_wp2_with (first | ((with_reducible refine gate_callee (f := 17) rfl ?_); refine goesL_ (some 59) rfl rfl Try.func17 (by kernel_rfl) rfl #[.slice A0 l0.length c0] rfl (by (try simp only [List.map_toArray, List.map_cons, List.map_nil]); first | done | rfl | (simp only [List.length_drop, List.length_take]; rfl)) ?_; (with_reducible refine (mosaiclaw01_own.calls _ _ l0 t174 _ ?side1 ?side2 A28.out).mono ?_); (case side1 => repeat (first | exact (Kd.C_below HR0.out HB.out) | (with_reducible refine Kd.C_alloc ?_ _) | (with_reducible refine Kd.C_drewN ?_ _) | (with_reducible refine Kd.C_drew ?_))); (case side2 => exact HC0.out); rintro e w52 ⟨v175, rfl, ho0, hb⟩; refine ⟨_, rfl, ?_⟩; have n0_ := Aside0.mk (Kd.R_lower ho0 (below_size (by repeat (first | (with_reducible first | exact HB.out | apply below_alloc | apply pw_below_drewN | apply below_drew1) | exact HB.out)))); have n1_ := Aside0.mk (below_step (by repeat (first | (with_reducible first | exact HB.out | apply below_alloc | apply pw_below_drewN | apply below_drew1) | exact HB.out)) hb); clear HB; have HO176 := n0_; have HB := n1_; clear n0_ n1_; (try clear hb); (try clear hb2); (try clear hk); (try clear hi); (try clear ho0)) | ((with_reducible refine gate_callee (f := 12) rfl ?_); refine goesL_ (some 63) rfl rfl Try.func12 (by kernel_rfl) rfl #[.int .i64 a1, .int .i64 (wrap64 ((wrap64 ((l0.length : Int) / 2)) - 1))] rfl (by (try simp only [List.map_toArray, List.map_cons, List.map_nil]); first | done | rfl | (simp only [List.length_drop, List.length_take]; rfl)) ?_; (with_reducible refine (mosaiclaw01_rest.calls a1 (wrap64 ((wrap64 ((l0.length : Int) / 2)) - 1)) t177 _ A29.out).mono ?_); rintro e w' ⟨rfl, ⟨nd, rfl⟩⟩; refine ⟨_, rfl, ?_⟩; (try (rw [drewN_self w52]; generalize hq_ : World.drewN w52 _ = w52; have n0_ : Aside0 (Kd.R (Kd.int .u8) 5 w52 w.heap.size (fun k_ => True) v175 t174) := ⟨by rw [← hq_]; exact (by (with_reducible repeat (first | apply Kd.R_alloc | apply Kd.R_drewN | apply Kd.R_drew)); exact HO176.out)⟩; have n1_ : Aside0 (Below w.heap.size w w52) := ⟨by rw [← hq_]; exact (by repeat (first | (with_reducible first | exact HB.out | apply below_alloc | apply pw_below_drewN | apply below_drew1) | exact HB.out))⟩; clear HO176 HB hq_; have HO176 := n0_; have HB := n1_; clear n0_ n1_))) | ((with_reducible refine gate_callee (f := 12) rfl ?_); refine goesL_ (some 68) rfl rfl Try.func12 (by kernel_rfl) rfl #[.int .i64 a2, .int .i64 (wrap64 ((wrap64 ((l0.length : Int) / 2)) - 1))] rfl (by (try simp only [List.map_toArray, List.map_cons, List.map_nil]); first | done | rfl | (simp only [List.length_drop, List.length_take]; rfl)) ?_; (with_reducible refine (mosaiclaw01_rest.calls a2 (wrap64 ((wrap64 ((l0.length : Int) / 2)) - 1)) t178 _ A30.out).mono ?_); rintro e w' ⟨rfl, ⟨nd, rfl⟩⟩; refine ⟨_, rfl, ?_⟩; (try (rw [drewN_self w52]; generalize hq_ : World.drewN w52 _ = w52; have n0_ : Aside0 (Kd.R (Kd.int .u8) 5 w52 w.heap.size (fun k_ => True) v175 t174) := ⟨by rw [← hq_]; exact (by (with_reducible repeat (first | apply Kd.R_alloc | apply Kd.R_drewN | apply Kd.R_drew)); exact HO176.out)⟩; have n1_ : Aside0 (Below w.heap.size w w52) := ⟨by rw [← hq_]; exact (by repeat (first | (with_reducible first | exact HB.out | apply below_alloc | apply pw_below_drewN | apply below_drew1) | exact HB.out))⟩; clear HO176 HB hq_; have HO176 := n0_; have HB := n1_; clear n0_ n1_))))
                                    have n0_ := Aside0.mk (Kd.R_drew HO176.out)
                                    have n1_ := Aside0.mk (below_drew1 HB.out)
                                    clear HO176
                                    clear HB
                                    have HO176 := n0_
                                    have HB := n1_
                                    clear n0_ n1_
                                    have p179 : 0 ≤ ((ji31) : Int) := of_decide_eq_true (by first | (with_reducible assumption) | assumption)
                                    have q179 : (ji31) < (l0.length : Int) := of_decide_eq_true (by first | (with_reducible assumption) | assumption)
                                    obtain ⟨ad179, e179, hx179_0⟩ := Kd.at_int HR0.out (ji31) p179 q179
                                    have hw179_0 := hx179_0
                                    cases e179
                                    replace hx179_0 := (HB.out.cell (World.block_lt_of_cell? w _ hx179_0)).trans hx179_0
                                    replace p179 := eq_true p179
                                    replace q179 := eq_true q179
                                    have p180 : 0 ≤ ((ji34) : Int) := of_decide_eq_true (by first | (with_reducible assumption) | assumption)
                                    have q180 : (ji34) < (l0.length : Int) := of_decide_eq_true (by first | (with_reducible assumption) | assumption)
                                    obtain ⟨ad180, e180, hx180_0⟩ := Kd.at_int HR0.out (ji34) p180 q180
                                    have hw180_0 := hx180_0
                                    obtain rfl : ad179 = ad180 := (by injection e180)
                                    replace hx180_0 := (HB.out.cell (World.block_lt_of_cell? w _ hx180_0)).trans hx180_0
                                    replace p180 := eq_true p180
                                    replace q180 := eq_true q180
                                    have p181 : 0 ≤ ((ji37) : Int) := of_decide_eq_true (by first | (with_reducible assumption) | assumption)
                                    have q181 : (ji37) < (l0.length : Int) := of_decide_eq_true (by first | (with_reducible assumption) | assumption)
                                    obtain ⟨ad181, e181, hx181_0⟩ := Kd.at_int HR0.out (ji37) p181 q181
                                    have hw181_0 := hx181_0
                                    obtain rfl : ad179 = ad181 := (by injection e181)
                                    replace hx181_0 := (HB.out.cell (World.block_lt_of_cell? w _ hx181_0)).trans hx181_0
                                    replace p181 := eq_true p181
                                    replace q181 := eq_true q181
                                    have p182 : 0 ≤ ((ji40) : Int) := of_decide_eq_true (by first | (with_reducible assumption) | assumption)
                                    have q182 : (ji40) < (l0.length : Int) := of_decide_eq_true (by first | (with_reducible assumption) | assumption)
                                    obtain ⟨ad182, e182, hx182_0⟩ := Kd.at_int HR0.out (ji40) p182 q182
                                    have hw182_0 := hx182_0
                                    obtain rfl : ad179 = ad182 := (by injection e182)
                                    replace hx182_0 := (HB.out.cell (World.block_lt_of_cell? w _ hx182_0)).trans hx182_0
                                    replace p182 := eq_true p182
                                    replace q182 := eq_true q182
                                    have p44 : 0 ≤ ((ji37) : Int) := of_decide_eq_true (by first | (with_reducible assumption) | assumption)
                                    have q44 : ((ji37) : Int) < ((t174.length : Int) : Int) := of_decide_eq_true (by first | (with_reducible assumption) | assumption)
                                    obtain ⟨go44, co44, eo44, gb44, gl44, cl44, HG44⟩ := Kd.R_form HO176.out (by omega)
                                    (first | cases eo44 | (injection eo44 with ea_ en_ ec_; (first | subst ea_ | (injection ea_ with ea_; subst ea_)); subst ec_; clear en_))
                                    have GB44 := Aside0.mk gb44
                                    have GG44 := Aside0.mk HG44
                                    clear gb44 gl44 HG44
                                    obtain ⟨hx44_0, hf44_0⟩ := Kd.R_celln 0 HO176.out ((ji37) : Int) p44 q44
                                    replace p44 := eq_true p44
                                    replace q44 := eq_true q44
                                    have HP54 := Kd.R_putn HO176.out ((ji37) : Int) (rd l0 (ji31))
                                    rw [← Ny183.out] at HP54
                                    have HQ54 := Aside0.mk HP54
                                    clear HP54
                                    have p46 : 0 ≤ ((ji40) : Int) := of_decide_eq_true (by first | (with_reducible assumption) | assumption)
                                    have q46 : ((ji40) : Int) < ((t174.length : Int) : Int) := of_decide_eq_true (by first | (with_reducible assumption) | assumption)
                                    obtain ⟨hx46_0, hf46_0⟩ := Kd.R_celln 0 HQ54.out ((ji40) : Int) p46 q46
                                    replace p46 := eq_true p46
                                    replace q46 := eq_true q46
                                    have HP55 := Kd.R_putn HQ54.out ((ji40) : Int) (rd l0 (ji34))
                                    rw [← Ny184.out] at HP55
                                    have HQ55 := Aside0.mk HP55
                                    clear HP55
                                    have p48 : 0 ≤ ((ji31) : Int) := of_decide_eq_true (by first | (with_reducible assumption) | assumption)
                                    have q48 : ((ji31) : Int) < ((t174.length : Int) : Int) := of_decide_eq_true (by first | (with_reducible assumption) | assumption)
                                    obtain ⟨hx48_0, hf48_0⟩ := Kd.R_celln 0 HQ55.out ((ji31) : Int) p48 q48
                                    replace p48 := eq_true p48
                                    replace q48 := eq_true q48
                                    have HP56 := Kd.R_putn HQ55.out ((ji31) : Int) (rd l0 (ji37))
                                    rw [← Ny185.out] at HP56
                                    have HQ56 := Aside0.mk HP56
                                    clear HP56
                                    have p50 : 0 ≤ ((ji34) : Int) := of_decide_eq_true (by first | (with_reducible assumption) | assumption)
                                    have q50 : ((ji34) : Int) < ((t174.length : Int) : Int) := of_decide_eq_true (by first | (with_reducible assumption) | assumption)
                                    obtain ⟨hx50_0, hf50_0⟩ := Kd.R_celln 0 HQ56.out ((ji34) : Int) p50 q50
                                    replace p50 := eq_true p50
                                    replace q50 := eq_true q50
                                    have HP57 := Kd.R_putn HQ56.out ((ji34) : Int) (rd l0 (ji40))
                                    rw [← Ny186.out] at HP57
                                    have HQ57 := Aside0.mk HP57
                                    clear HP57
                                    refine start_ (n := 36) (S := fun w' => w'.cell? (ad179.add ((ji31)).toNat) = some (.int .u8 (rd l0 (ji31))) ∧ w'.cell? (ad179.add ((ji34)).toNat) = some (.int .u8 (rd l0 (ji34))) ∧ w'.cell? (ad179.add ((ji37)).toNat) = some (.int .u8 (rd l0 (ji37))) ∧ w'.cell? (ad179.add ((ji40)).toNat) = some (.int .u8 (rd l0 (ji40)))) (ds := [29, 31, 33, 35]) #[false, false, false, false, false, false, false, false, false, false, false, false, false, false, false, false, false, false, false, false, false, false, false, false, false, false, false, false, false, false, false, false, false, false, false, false] (by kernel_rfl) rfl rfl ⟨((HB.out.cell (World.block_lt_of_cell? w _ hw179_0)).trans hw179_0), ((HB.out.cell (World.block_lt_of_cell? w _ hw180_0)).trans hw180_0), ((HB.out.cell (World.block_lt_of_cell? w _ hw181_0)).trans hw181_0), ((HB.out.cell (World.block_lt_of_cell? w _ hw182_0)).trans hw182_0)⟩ (fun hHeld => ?_); refine with_tabW mosaiclaw01_SumOrders.tab12 mosaiclaw01_SumOrders.bits12 (fun HT_ HW_ => ?_)
                                    generalize w52.drew = w53 at HO176 HB GG44 HQ54 HQ55 HQ56 HQ57 hf44_0 hf46_0 hf48_0 hf50_0 hx179_0 hx180_0 hx181_0 hx182_0 hx44_0 hx46_0 hx48_0 hx50_0 hHeld ⊢
                                    refine pure_ (i := 0) (N := some 70) (v := ?_) (a' := ?_) #[true, false, false, false, false, false, false, false, false, false, false, false, false, false, false, false, false, false, false, false, false, false, false, false, false, false, false, false, false, false, false, false, false, false, false, false] rfl rfl (any_of HT_.out (by kernel_rfl)) (fun _ _ _ h => h) (Or.inl ⟨by rfl, ?_⟩) ?_ ?_
                                    rotate_left
                                    · intro w'
                                      go_simp
                                      with_reducible rfl
                                    rotate_left
                                    · simp only [Act.put, List.setIfInBounds_toArray, List.set_cons_zero, List.set_cons_succ, i64_w, i32_w]
                                      rfl
                                    refine pure_ (i := 1) (N := some 71) (v := ?_) (a' := ?_) #[true, true, false, false, false, false, false, false, false, false, false, false, false, false, false, false, false, false, false, false, false, false, false, false, false, false, false, false, false, false, false, false, false, false, false, false] rfl rfl (any_of HT_.out (by kernel_rfl)) (fun _ _ _ h => h) (Or.inl ⟨by rfl, ?_⟩) ?_ ?_
                                    rotate_left
                                    · intro w'
                                      go_simp
                                      with_reducible rfl
                                    rotate_left
                                    · simp only [Act.put, List.setIfInBounds_toArray, List.set_cons_zero, List.set_cons_succ, i64_w, i32_w]
                                      rfl
                                    refine pure_ (i := 2) (N := some 72) (v := ?_) (a' := ?_) #[true, true, true, false, false, false, false, false, false, false, false, false, false, false, false, false, false, false, false, false, false, false, false, false, false, false, false, false, false, false, false, false, false, false, false, false] rfl rfl (any_of HT_.out (by kernel_rfl)) (fun _ _ _ h => h) (Or.inl ⟨by rfl, ?_⟩) ?_ ?_
                                    rotate_left
                                    · intro w'
                                      go_simp
                                      with_reducible rfl
                                    rotate_left
                                    · simp only [Act.put, List.setIfInBounds_toArray, List.set_cons_zero, List.set_cons_succ, i64_w, i32_w]
                                      rfl
                                    refine pure_ (i := 3) (N := some 73) (v := ?_) (a' := ?_) #[true, true, true, true, false, false, false, false, false, false, false, false, false, false, false, false, false, false, false, false, false, false, false, false, false, false, false, false, false, false, false, false, false, false, false, false] rfl rfl (any_of HT_.out (by kernel_rfl)) (fun _ _ _ h => h) (Or.inl ⟨by rfl, ?_⟩) ?_ ?_
                                    rotate_left
                                    · intro w'
                                      go_simp
                                      with_reducible rfl
                                    rotate_left
                                    · simp only [Act.put, List.setIfInBounds_toArray, List.set_cons_zero, List.set_cons_succ, i64_w, i32_w]
                                      rfl
                                    refine pure_ (i := 4) (N := some 74) (v := ?_) (a' := ?_) #[true, true, true, true, true, false, false, false, false, false, false, false, false, false, false, false, false, false, false, false, false, false, false, false, false, false, false, false, false, false, false, false, false, false, false, false] rfl rfl (any_of HT_.out (by kernel_rfl)) (fun _ _ _ h => h) (Or.inl ⟨by rfl, ?_⟩) ?_ ?_
                                    rotate_left
                                    · intro w'
                                      go_simp
                                      with_reducible rfl
                                    rotate_left
                                    · simp only [Act.put, List.setIfInBounds_toArray, List.set_cons_zero, List.set_cons_succ, i64_w, i32_w]
                                      rfl
                                    refine pure_ (i := 5) (N := some 75) (v := ?_) (a' := ?_) #[true, true, true, true, true, true, false, false, false, false, false, false, false, false, false, false, false, false, false, false, false, false, false, false, false, false, false, false, false, false, false, false, false, false, false, false] rfl rfl (any_of HT_.out (by kernel_rfl)) (fun _ _ _ h => h) (Or.inl ⟨by rfl, ?_⟩) ?_ ?_
                                    rotate_left
                                    · intro w'
                                      go_simp
                                      with_reducible rfl
                                    rotate_left
                                    · simp only [Act.put, List.setIfInBounds_toArray, List.set_cons_zero, List.set_cons_succ, i64_w, i32_w]
                                      rfl
                                    refine pure_ (i := 6) (N := some 76) (v := ?_) (a' := ?_) #[true, true, true, true, true, true, true, false, false, false, false, false, false, false, false, false, false, false, false, false, false, false, false, false, false, false, false, false, false, false, false, false, false, false, false, false] rfl rfl (any_of HT_.out (by kernel_rfl)) (fun _ _ _ h => h) (Or.inl ⟨by rfl, ?_⟩) ?_ ?_
                                    rotate_left
                                    · intro w'
                                      go_simp
                                      with_reducible rfl
                                    rotate_left
                                    · simp only [Act.put, List.setIfInBounds_toArray, List.set_cons_zero, List.set_cons_succ, i64_w, i32_w]
                                      rfl
                                    refine pure_ (i := 7) (N := some 77) (v := ?_) (a' := ?_) #[true, true, true, true, true, true, true, true, false, false, false, false, false, false, false, false, false, false, false, false, false, false, false, false, false, false, false, false, false, false, false, false, false, false, false, false] rfl rfl (any_of HT_.out (by kernel_rfl)) (fun _ _ _ h => h) (Or.inl ⟨by rfl, ?_⟩) ?_ ?_
                                    rotate_left
                                    · intro w'
                                      go_simp
                                      with_reducible rfl
                                    rotate_left
                                    · simp only [Act.put, List.setIfInBounds_toArray, List.set_cons_zero, List.set_cons_succ, i64_w, i32_w]
                                      rfl
                                    refine pure_ (i := 8) (N := some 78) (v := ?_) (a' := ?_) #[true, true, true, true, true, true, true, true, true, false, false, false, false, false, false, false, false, false, false, false, false, false, false, false, false, false, false, false, false, false, false, false, false, false, false, false] rfl rfl (any_of HT_.out (by kernel_rfl)) (fun _ _ _ h => h) (Or.inl ⟨by rfl, ?_⟩) ?_ ?_
                                    rotate_left
                                    · intro w'
                                      go_simp
                                      with_reducible rfl
                                    rotate_left
                                    · simp only [Act.put, List.setIfInBounds_toArray, List.set_cons_zero, List.set_cons_succ, i64_w, i32_w]
                                      rfl
                                    refine pure_ (i := 9) (N := some 79) (v := ?_) (a' := ?_) #[true, true, true, true, true, true, true, true, true, true, false, false, false, false, false, false, false, false, false, false, false, false, false, false, false, false, false, false, false, false, false, false, false, false, false, false] rfl rfl (any_of HT_.out (by kernel_rfl)) (fun _ _ _ h => h) (Or.inl ⟨by rfl, ?_⟩) ?_ ?_
                                    rotate_left
                                    · intro w'
                                      go_simp
                                      with_reducible rfl
                                    rotate_left
                                    · simp only [Act.put, List.setIfInBounds_toArray, List.set_cons_zero, List.set_cons_succ, i64_w, i32_w]
                                      rfl
                                    refine pure_ (i := 10) (N := some 80) (v := ?_) (a' := ?_) #[true, true, true, true, true, true, true, true, true, true, true, false, false, false, false, false, false, false, false, false, false, false, false, false, false, false, false, false, false, false, false, false, false, false, false, false] rfl rfl (any_of HT_.out (by kernel_rfl)) (fun _ _ _ h => h) (Or.inl ⟨by rfl, ?_⟩) ?_ ?_
                                    rotate_left
                                    · intro w'
                                      go_simp
                                      with_reducible rfl
                                    rotate_left
                                    · simp only [Act.put, List.setIfInBounds_toArray, List.set_cons_zero, List.set_cons_succ, i64_w, i32_w]
                                      rfl
                                    refine pure_ (i := 11) (N := some 81) (v := ?_) (a' := ?_) #[true, true, true, true, true, true, true, true, true, true, true, true, false, false, false, false, false, false, false, false, false, false, false, false, false, false, false, false, false, false, false, false, false, false, false, false] rfl rfl (any_of HT_.out (by kernel_rfl)) (fun _ _ _ h => h) (Or.inl ⟨by rfl, ?_⟩) ?_ ?_
                                    rotate_left
                                    · intro w'
                                      go_simp
                                      with_reducible rfl
                                    rotate_left
                                    · simp only [Act.put, List.setIfInBounds_toArray, List.set_cons_zero, List.set_cons_succ, i64_w, i32_w]
                                      rfl
                                    refine pure_ (i := 12) (N := some 82) (v := ?_) (a' := ?_) #[true, true, true, true, true, true, true, true, true, true, true, true, true, false, false, false, false, false, false, false, false, false, false, false, false, false, false, false, false, false, false, false, false, false, false, false] rfl rfl (any_of HT_.out (by kernel_rfl)) (fun _ _ _ h => h) (Or.inl ⟨by rfl, ?_⟩) ?_ ?_
                                    rotate_left
                                    · intro w'
                                      go_simp
                                      with_reducible rfl
                                    rotate_left
                                    · simp only [Act.put, List.setIfInBounds_toArray, List.set_cons_zero, List.set_cons_succ, i64_w, i32_w]
                                      rfl
                                    refine pure_ (i := 14) (N := some 84) (v := ?_) (a' := ?_) #[true, true, true, true, true, true, true, true, true, true, true, true, true, false, true, false, false, false, false, false, false, false, false, false, false, false, false, false, false, false, false, false, false, false, false, false] rfl rfl (any_of HT_.out (by kernel_rfl)) (fun _ _ _ h => h) (Or.inl ⟨by rfl, ?_⟩) ?_ ?_
                                    rotate_left
                                    · intro w'
                                      go_simp
                                      with_reducible rfl
                                    rotate_left
                                    · simp only [Act.put, List.setIfInBounds_toArray, List.set_cons_zero, List.set_cons_succ, i64_w, i32_w]
                                      rfl
                                    refine pure_ (i := 15) (N := some 85) (v := ?_) (a' := ?_) #[true, true, true, true, true, true, true, true, true, true, true, true, true, false, true, true, false, false, false, false, false, false, false, false, false, false, false, false, false, false, false, false, false, false, false, false] rfl rfl (any_of HT_.out (by kernel_rfl)) (fun _ _ _ h => h) (Or.inl ⟨by rfl, ?_⟩) ?_ ?_
                                    rotate_left
                                    · intro w'
                                      go_simp
                                      with_reducible rfl
                                    rotate_left
                                    · simp only [Act.put, List.setIfInBounds_toArray, List.set_cons_zero, List.set_cons_succ, i64_w, i32_w]
                                      rfl
                                    refine pure_ (i := 16) (N := some 86) (v := ?_) (a' := ?_) #[true, true, true, true, true, true, true, true, true, true, true, true, true, false, true, true, true, false, false, false, false, false, false, false, false, false, false, false, false, false, false, false, false, false, false, false] rfl rfl (any_of HT_.out (by kernel_rfl)) (fun _ _ _ h => h) (Or.inl ⟨by rfl, ?_⟩) ?_ ?_
                                    rotate_left
                                    · intro w'
                                      go_simp
                                      with_reducible rfl
                                    rotate_left
                                    · simp only [Act.put, List.setIfInBounds_toArray, List.set_cons_zero, List.set_cons_succ, i64_w, i32_w]
                                      rfl
                                    refine pure_ (i := 17) (N := some 87) (v := ?_) (a' := ?_) #[true, true, true, true, true, true, true, true, true, true, true, true, true, false, true, true, true, true, false, false, false, false, false, false, false, false, false, false, false, false, false, false, false, false, false, false] rfl rfl (any_of HT_.out (by kernel_rfl)) (fun _ _ _ h => h) (Or.inl ⟨by rfl, ?_⟩) ?_ ?_
                                    rotate_left
                                    · intro w'
                                      go_simp
                                      with_reducible rfl
                                    rotate_left
                                    · simp only [Act.put, List.setIfInBounds_toArray, List.set_cons_zero, List.set_cons_succ, i64_w, i32_w]
                                      rfl
                                    refine pure_ (i := 19) (N := some 89) (v := ?_) (a' := ?_) #[true, true, true, true, true, true, true, true, true, true, true, true, true, false, true, true, true, true, false, true, false, false, false, false, false, false, false, false, false, false, false, false, false, false, false, false] rfl rfl (any_of HT_.out (by kernel_rfl)) (fun _ _ _ h => h) (Or.inl ⟨by rfl, ?_⟩) ?_ ?_
                                    rotate_left
                                    · intro w'
                                      go_simp
                                      with_reducible rfl
                                    rotate_left
                                    · simp only [Act.put, List.setIfInBounds_toArray, List.set_cons_zero, List.set_cons_succ, i64_w, i32_w]
                                      rfl
                                    refine pure_ (i := 20) (N := some 90) (v := ?_) (a' := ?_) #[true, true, true, true, true, true, true, true, true, true, true, true, true, false, true, true, true, true, false, true, true, false, false, false, false, false, false, false, false, false, false, false, false, false, false, false] rfl rfl (any_of HT_.out (by kernel_rfl)) (fun _ _ _ h => h) (Or.inl ⟨by rfl, ?_⟩) ?_ ?_
                                    rotate_left
                                    · intro w'
                                      go_simp
                                      with_reducible rfl
                                    rotate_left
                                    · simp only [Act.put, List.setIfInBounds_toArray, List.set_cons_zero, List.set_cons_succ, i64_w, i32_w]
                                      rfl
                                    refine pure_ (i := 21) (N := some 91) (v := ?_) (a' := ?_) #[true, true, true, true, true, true, true, true, true, true, true, true, true, false, true, true, true, true, false, true, true, true, false, false, false, false, false, false, false, false, false, false, false, false, false, false] rfl rfl (any_of HT_.out (by kernel_rfl)) (fun _ _ _ h => h) (Or.inl ⟨by rfl, ?_⟩) ?_ ?_
                                    rotate_left
                                    · intro w'
                                      go_simp
                                      with_reducible rfl
                                    rotate_left
                                    · simp only [Act.put, List.setIfInBounds_toArray, List.set_cons_zero, List.set_cons_succ, i64_w, i32_w]
                                      rfl
                                    refine pure_ (i := 23) (N := some 93) (v := ?_) (a' := ?_) #[true, true, true, true, true, true, true, true, true, true, true, true, true, false, true, true, true, true, false, true, true, true, false, true, false, false, false, false, false, false, false, false, false, false, false, false] rfl rfl (any_of HT_.out (by kernel_rfl)) (fun _ _ _ h => h) (Or.inl ⟨by rfl, ?_⟩) ?_ ?_
                                    rotate_left
                                    · intro w'
                                      go_simp
                                      with_reducible rfl
                                    rotate_left
                                    · simp only [Act.put, List.setIfInBounds_toArray, List.set_cons_zero, List.set_cons_succ, i64_w, i32_w]
                                      rfl
                                    refine pure_ (i := 24) (N := some 94) (v := ?_) (a' := ?_) #[true, true, true, true, true, true, true, true, true, true, true, true, true, false, true, true, true, true, false, true, true, true, false, true, true, false, false, false, false, false, false, false, false, false, false, false] rfl rfl (any_of HT_.out (by kernel_rfl)) (fun _ _ _ h => h) (Or.inl ⟨by rfl, ?_⟩) ?_ ?_
                                    rotate_left
                                    · intro w'
                                      go_simp
                                      with_reducible rfl
                                    rotate_left
                                    · simp only [Act.put, List.setIfInBounds_toArray, List.set_cons_zero, List.set_cons_succ, i64_w, i32_w]
                                      rfl
                                    refine pure_ (i := 25) (N := some 95) (v := ?_) (a' := ?_) #[true, true, true, true, true, true, true, true, true, true, true, true, true, false, true, true, true, true, false, true, true, true, false, true, true, true, false, false, false, false, false, false, false, false, false, false] rfl rfl (any_of HT_.out (by kernel_rfl)) (fun _ _ _ h => h) (Or.inl ⟨by rfl, ?_⟩) ?_ ?_
                                    rotate_left
                                    · intro w'
                                      go_simp
                                      with_reducible rfl
                                    rotate_left
                                    · simp only [Act.put, List.setIfInBounds_toArray, List.set_cons_zero, List.set_cons_succ, i64_w, i32_w]
                                      rfl
                                    refine pure_ (i := 26) (N := some 96) (v := ?_) (a' := ?_) #[true, true, true, true, true, true, true, true, true, true, true, true, true, false, true, true, true, true, false, true, true, true, false, true, true, true, true, false, false, false, false, false, false, false, false, false] rfl rfl (any_of HT_.out (by kernel_rfl)) (fun _ _ _ h => h) (Or.inl ⟨by rfl, ?_⟩) ?_ ?_
                                    rotate_left
                                    · intro w'
                                      go_simp
                                      with_reducible rfl
                                    rotate_left
                                    · simp only [Act.put, List.setIfInBounds_toArray, List.set_cons_zero, List.set_cons_succ, i64_w, i32_w]
                                      rfl
                                    refine take_ (i := 13) (N := some 83) (v := ?_) (a' := ?_) #[true, true, true, true, true, true, true, true, true, true, true, true, true, true, true, true, true, true, false, true, true, true, false, true, true, true, true, false, false, false, false, false, false, false, false, false] rfl rfl (take_ofW HT_.out HW_.out (by kernel_rfl)) (fun _ _ _ h => h) (Or.inl ⟨by rfl, ?_⟩) hHeld ?_ ?_
                                    rotate_left
                                    · rintro w' ⟨s0, s1, s2, s3⟩
                                      go_simp
                                      with_reducible rfl
                                    rotate_left
                                    · simp only [Act.put, List.setIfInBounds_toArray, List.set_cons_zero, List.set_cons_succ, i64_w, i32_w]
                                      rfl
                                    refine take_ (i := 18) (N := some 88) (v := ?_) (a' := ?_) #[true, true, true, true, true, true, true, true, true, true, true, true, true, true, true, true, true, true, true, true, true, true, false, true, true, true, true, false, false, false, false, false, false, false, false, false] rfl rfl (take_ofW HT_.out HW_.out (by kernel_rfl)) (fun _ _ _ h => h) (Or.inl ⟨by rfl, ?_⟩) hHeld ?_ ?_
                                    rotate_left
                                    · rintro w' ⟨s0, s1, s2, s3⟩
                                      go_simp
                                      with_reducible rfl
                                    rotate_left
                                    · simp only [Act.put, List.setIfInBounds_toArray, List.set_cons_zero, List.set_cons_succ, i64_w, i32_w]
                                      rfl
                                    refine take_ (i := 22) (N := some 92) (v := ?_) (a' := ?_) #[true, true, true, true, true, true, true, true, true, true, true, true, true, true, true, true, true, true, true, true, true, true, true, true, true, true, true, false, false, false, false, false, false, false, false, false] rfl rfl (take_ofW HT_.out HW_.out (by kernel_rfl)) (fun _ _ _ h => h) (Or.inl ⟨by rfl, ?_⟩) hHeld ?_ ?_
                                    rotate_left
                                    · rintro w' ⟨s0, s1, s2, s3⟩
                                      go_simp
                                      with_reducible rfl
                                    rotate_left
                                    · simp only [Act.put, List.setIfInBounds_toArray, List.set_cons_zero, List.set_cons_succ, i64_w, i32_w]
                                      rfl
                                    refine take_ (i := 27) (N := some 97) (v := ?_) (a' := ?_) #[true, true, true, true, true, true, true, true, true, true, true, true, true, true, true, true, true, true, true, true, true, true, true, true, true, true, true, true, false, false, false, false, false, false, false, false] rfl rfl (take_ofW HT_.out HW_.out (by kernel_rfl)) (fun _ _ _ h => h) (Or.inl ⟨by rfl, ?_⟩) hHeld ?_ ?_
                                    rotate_left
                                    · rintro w' ⟨s0, s1, s2, s3⟩
                                      go_simp
                                      with_reducible rfl
                                    rotate_left
                                    · simp only [Act.put, List.setIfInBounds_toArray, List.set_cons_zero, List.set_cons_succ, i64_w, i32_w]
                                      rfl
                                    refine pure_ (i := 28) (N := some 98) (v := ?_) (a' := ?_) #[true, true, true, true, true, true, true, true, true, true, true, true, true, true, true, true, true, true, true, true, true, true, true, true, true, true, true, true, true, false, false, false, false, false, false, false] rfl rfl (any_of HT_.out (by kernel_rfl)) (fun _ _ _ h => h) (Or.inl ⟨by rfl, ?_⟩) ?_ ?_
                                    rotate_left
                                    · intro w'
                                      go_simp
                                      with_reducible rfl
                                    rotate_left
                                    · simp only [Act.put, List.setIfInBounds_toArray, List.set_cons_zero, List.set_cons_succ, i64_w, i32_w]
                                      rfl
                                    refine last_ (i := 29) (N := none) #[true, true, true, true, true, true, true, true, true, true, true, true, true, true, true, true, true, true, true, true, true, true, true, true, true, true, true, true, true, true, false, false, false, false, false, false] rfl rfl (one_of HT_.out (by kernel_rfl)) (by decide) (fun K hK => ?_)
                                    refine skip_ (w1 := ?_) (by rfl) rfl ?_ ?_
                                    rotate_left
                                    · go_simp
                                      rfl
                                    refine hK.out _ _ ?_
                                    clear hK K
                                    refine pure_ (i := 30) (N := some 99) (v := ?_) (a' := ?_) #[true, true, true, true, true, true, true, true, true, true, true, true, true, true, true, true, true, true, true, true, true, true, true, true, true, true, true, true, true, true, true, false, false, false, false, false] rfl rfl (any_of HT_.out (by kernel_rfl)) (fun _ _ _ h => h) (Or.inl ⟨by rfl, ?_⟩) ?_ ?_
                                    rotate_left
                                    · intro w'
                                      go_simp
                                      with_reducible rfl
                                    rotate_left
                                    · simp only [Act.put, List.setIfInBounds_toArray, List.set_cons_zero, List.set_cons_succ, i64_w, i32_w]
                                      rfl
                                    refine last_ (i := 31) (N := none) #[true, true, true, true, true, true, true, true, true, true, true, true, true, true, true, true, true, true, true, true, true, true, true, true, true, true, true, true, true, true, true, true, false, false, false, false] rfl rfl (one_of HT_.out (by kernel_rfl)) (by decide) (fun K hK => ?_)
                                    refine skip_ (w1 := ?_) (by rfl) rfl ?_ ?_
                                    rotate_left
                                    · go_simp
                                      rfl
                                    refine hK.out _ _ ?_
                                    clear hK K
                                    refine pure_ (i := 32) (N := some 100) (v := ?_) (a' := ?_) #[true, true, true, true, true, true, true, true, true, true, true, true, true, true, true, true, true, true, true, true, true, true, true, true, true, true, true, true, true, true, true, true, true, false, false, false] rfl rfl (any_of HT_.out (by kernel_rfl)) (fun _ _ _ h => h) (Or.inl ⟨by rfl, ?_⟩) ?_ ?_
                                    rotate_left
                                    · intro w'
                                      go_simp
                                      with_reducible rfl
                                    rotate_left
                                    · simp only [Act.put, List.setIfInBounds_toArray, List.set_cons_zero, List.set_cons_succ, i64_w, i32_w]
                                      rfl
                                    refine last_ (i := 33) (N := none) #[true, true, true, true, true, true, true, true, true, true, true, true, true, true, true, true, true, true, true, true, true, true, true, true, true, true, true, true, true, true, true, true, true, true, false, false] rfl rfl (one_of HT_.out (by kernel_rfl)) (by decide) (fun K hK => ?_)
                                    refine skip_ (w1 := ?_) (by rfl) rfl ?_ ?_
                                    rotate_left
                                    · go_simp
                                      rfl
                                    refine hK.out _ _ ?_
                                    clear hK K
                                    refine pure_ (i := 34) (N := some 101) (v := ?_) (a' := ?_) #[true, true, true, true, true, true, true, true, true, true, true, true, true, true, true, true, true, true, true, true, true, true, true, true, true, true, true, true, true, true, true, true, true, true, true, false] rfl rfl (any_of HT_.out (by kernel_rfl)) (fun _ _ _ h => h) (Or.inl ⟨by rfl, ?_⟩) ?_ ?_
                                    rotate_left
                                    · intro w'
                                      go_simp
                                      with_reducible rfl
                                    rotate_left
                                    · simp only [Act.put, List.setIfInBounds_toArray, List.set_cons_zero, List.set_cons_succ, i64_w, i32_w]
                                      rfl
                                    refine last_ (i := 35) (N := none) #[true, true, true, true, true, true, true, true, true, true, true, true, true, true, true, true, true, true, true, true, true, true, true, true, true, true, true, true, true, true, true, true, true, true, true, true] rfl rfl (one_of HT_.out (by kernel_rfl)) (by decide) (fun K hK => ?_)
                                    refine skip_ (w1 := ?_) (by rfl) rfl ?_ ?_
                                    rotate_left
                                    · go_simp
                                      rfl
                                    refine hK.out _ _ ?_
                                    clear hK K
                                    refine done_ (done_of HT_.out (by kernel_rfl)) ?_
                                    have n0_ : Aside0 (Kd.R (Kd.int .u8) 5 ((((w53.setCell ⟨go44, ((ji37) : Int).toNat, none⟩ (.int .u8 (rd l0 (ji31)))).setCell ⟨go44, ((ji40) : Int).toNat, none⟩ (.int .u8 (rd l0 (ji34)))).setCell ⟨go44, ((ji31) : Int).toNat, none⟩ (.int .u8 (rd l0 (ji37)))).setCell ⟨go44, ((ji34) : Int).toNat, none⟩ (.int .u8 (rd l0 (ji40)))) w.heap.size (fun _ => True) (.slice (some ⟨go44, 0, none⟩) t174.length co44) y186) := ⟨by (with_reducible repeat (first | apply Kd.R_alloc | apply Kd.R_drewN | apply Kd.R_drew)); exact HQ57.out⟩
                                    have n1_ : Aside0 (Below w.heap.size w ((((w53.setCell ⟨go44, ((ji37) : Int).toNat, none⟩ (.int .u8 (rd l0 (ji31)))).setCell ⟨go44, ((ji40) : Int).toNat, none⟩ (.int .u8 (rd l0 (ji34)))).setCell ⟨go44, ((ji31) : Int).toNat, none⟩ (.int .u8 (rd l0 (ji37)))).setCell ⟨go44, ((ji34) : Int).toNat, none⟩ (.int .u8 (rd l0 (ji40))))) := ⟨by repeat (first | (with_reducible first | exact HB.out | apply below_alloc | apply pw_below_drewN | apply below_drew1 | refine below_set ?_ GB44.out | refine below_set ?_ GB44.out | refine below_set ?_ GB44.out | refine below_set ?_ GB44.out) | exact HB.out)⟩
                                    (try clear HO176)
                                    (try clear HB)
                                    generalize ((((w53.setCell ⟨go44, ((ji37) : Int).toNat, none⟩ (.int .u8 (rd l0 (ji31)))).setCell ⟨go44, ((ji40) : Int).toNat, none⟩ (.int .u8 (rd l0 (ji34)))).setCell ⟨go44, ((ji31) : Int).toNat, none⟩ (.int .u8 (rd l0 (ji37)))).setCell ⟨go44, ((ji34) : Int).toNat, none⟩ (.int .u8 (rd l0 (ji40)))) = w58 at n0_ n1_ ⊢
                                    have HO176 := n0_
                                    have HB := n1_
                                    clear n0_ n1_
                                    try go_wp2_with (first | ((with_reducible refine gate_callee (f := 11) rfl ?_); refine goesL_ (some 103) rfl rfl Try.func11 (by kernel_rfl) rfl #[.slice (some ⟨go44, 0, none⟩) y186.length co44] rfl (by (try simp only [List.map_toArray, List.map_cons, List.map_nil]); first | done | (rw [show y186.length = t174.length from (Kd.R_reads' HO176.out).1.symm] <;> rfl) | rfl | (simp only [List.length_drop, List.length_take]; rfl)) ?_; (with_reducible refine (sum_Part.calls kj6 (fun k_ => some k_ = (.slice (some ⟨go44, 0, none⟩) t174.length co44 : Value).ownBlock) _ _ y186 t187 _ ?side1 A51.out).mono ?_); (case side1 => rw [show y186.length = t174.length from (Kd.R_reads' HO176.out).1.symm]; exact Kd.R_V (Kd.R_tight rfl (HO176.out))); rintro e w59 ⟨rfl, hb⟩; refine ⟨_, rfl, ?_⟩; have n0_ := Aside0.mk (Kd.R_below (by (with_reducible repeat (first | apply Kd.R_alloc | apply Kd.R_drewN | apply Kd.R_drew)); exact HO176.out) hb); have n1_ := Aside0.mk (below_step (by repeat (first | (with_reducible first | exact HB.out | apply below_alloc | apply pw_below_drewN | apply below_drew1) | exact HB.out)) hb); clear HO176; clear HB; have HO176 := n0_; have HB := n1_; clear n0_ n1_; (try clear hb); (try clear hb2); (try clear hk); (try clear hi)))
                                    go_ret
                                    exact ⟨by first | rfl | (simp [errW_none, errW_some] <;> rfl) | (simp only [← hji31, ← hji34, ← hji37, ← hji40]; first | rfl | (simp [errW_none, errW_some] <;> rfl)) | (simp [*, errW_none, errW_some] <;> rfl), by repeat (first | (with_reducible first | exact HB.out | apply below_alloc | apply pw_below_drewN | apply below_drew1) | exact HB.out)⟩
                                  · rw [if_neg c49] at H
                                    exact absurd H (by simp)
                                · rw [if_neg c47] at H
                                  exact absurd H (by simp)
                              · rw [if_neg c45] at H
                                exact absurd H (by simp)
                            · rw [if_neg c43] at H
                              exact absurd H (by simp)
                          · rw [if_neg c42] at H
                            exact absurd H (by simp)
                        · rw [if_neg c41] at H
                          exact absurd H (by simp)
                      · rw [if_neg c39] at H
                        exact absurd H (by simp)
                    · rw [if_neg c38] at H
                      exact absurd H (by simp)
                  · rw [if_neg c36] at H
                    exact absurd H (by simp)
                · rw [if_neg c35] at H
                  exact absurd H (by simp)
              · rw [if_neg c33] at H
                exact absurd H (by simp)
            · rw [if_neg c32] at H
              exact absurd H (by simp)
  · replace c5 := Bool.eq_false_iff.mpr c5
    subst c5
    have H1 : (some false) = some r := by rw [if_neg (show ¬ (false = true) by decide)] at H; exact H
    clear H
    have H := H1
    clear H1
    obtain rfl := Option.some.inj H
    go_enter Try.func5, Try.ntmps5
    go_wp2_with (first | ((with_reducible refine gate_callee (f := 10) rfl ?_); refine goesL_ (some 12) rfl rfl Try.func10 (by kernel_rfl) rfl #[] rfl (by (try simp only [List.map_toArray, List.map_cons, List.map_nil]); first | done | rfl | (simp only [List.length_drop, List.length_take]; rfl)) ?_; (with_reducible refine (mosaiclaw01_known.calls k  false _ A4.out).mono ?_); rintro e w60 ⟨rfl, hb⟩; refine ⟨_, rfl, ?_⟩; have n0_ := Aside0.mk (below_step (by repeat (first | (with_reducible first | exact HB.out | apply below_alloc | apply pw_below_drewN | apply below_drew1) | exact HB.out)) hb); clear HB; have HB := n0_; clear n0_; (try clear hb); (try clear hb2); (try clear hk); (try clear hi)))
    go_ret
    exact ⟨by first | rfl | (simp [errW_none, errW_some] <;> rfl) | (simp [*, errW_none, errW_some] <;> rfl), by repeat (first | (with_reducible first | exact HB.out | apply below_alloc | apply pw_below_drewN | apply below_drew1) | exact HB.out)⟩

/-- THE ONE PURE STATEMENT of mosaiclaw01_SumOrders: yours. -/
def mosaiclaw01_SumOrders.Pure : Prop := ∀ (l0 : List Int) (a1 : Int) (a2 : Int), l0.length ≤ maxLen → l0.length * 1 ≤ 140737488351232 → (∀ x ∈ l0, (Lit.int .u8 x).wf = true) → (Lit.int .i64 a1).wf = true → (Lit.int .i64 a2).wf = true → ∃ k, mosaiclaw01_SumOrders.f k l0 a1 a2 = some true
theorem mosaiclaw01_SumOrders.walk (P : mosaiclaw01_SumOrders.Pure) (a0 : Option Addr) (len0 cap0 : Nat) (z0 : List Int) (a1 : Int) (a2 : Int) (w : World) (w0 : (a0 = none ∧ len0 = 0 ∧ cap0 = 0 ∧ z0 = []) ∨ ∃ x, a0 = some x ∧ len0 ≤ cap0 ∧ cap0 ≤ maxLen ∧ z0.length = cap0 ∧ (∀ i, i < z0.length → w.cell? (x.add i) = some (.int .u8 (z0.getD i 0))) ∧ ∀ n ∈ z0, (Lit.int .u8 n).wf = true) (y0 : len0 * 1 ≤ 140737488351232) (w1 : (Lit.int .i64 a1).wf = true) (w2 : (Lit.int .i64 a2).wf = true) :
    Calls Try.prog 5 #[.slice a0 len0 cap0, .int .i64 a1, .int .i64 a2] w fun e w' => e = .returned (.bool true) ∧ Below w.heap.size w w' := by
  obtain ⟨l0, rfl, hr0, hm0, hw0, hc0⟩ := ReadsInt.ofRowC w0
  obtain ⟨k, h⟩ := P l0 a1 a2 hm0 y0 hw0 w1 w2
  refine (mosaiclaw01_SumOrders.calls k _ _ l0 a1 a2 true w (Kd.C_of_reads (d := (0 : Int)) (h1 := fun _ => rfl) hr0) hc0 h).mono ?_
  rintro e w' ⟨rfl, hd⟩
  exact ⟨rfl, hd⟩

end Go.Proofs.Ytoijfhcmjolecaa.PAll
