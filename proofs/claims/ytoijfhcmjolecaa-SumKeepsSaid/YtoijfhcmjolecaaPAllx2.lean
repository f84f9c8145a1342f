/- Contracts of the Go functions that a statement of this seat reaches: a Lean function for each, and the proof that the Go code answers what it answers; written by a program of this session. Conditions: none beyond those that each theorem states. -/
import Derived.Test.YtoijfhcmjolecaaPAllx0
import Derived.Test.YtoijfhcmjolecaaPAllx1
namespace Go.Proofs.Ytoijfhcmjolecaa.PAll
open Go.RowKit Go.Proofs.YtoijfhcmjolecaaW.PrintWords Go.Proofs.YtoijfhcmjolecaaW.PrintLast Go.Proofs.YtoijfhcmjolecaaW.PrintMore
attribute [local go_sem] max2_int min2_int max_two min_two max_three min_three max_four min_four   -- for this text's walks alone
set_option linter.unusedVariables false
set_option linter.unusedSimpArgs false

/-! ### mosaiclaw01_SumAdds: function 4 -/
mutual
def mosaiclaw01_SumAdds.j0 : Nat → Int → Int → Bool → Option (Bool)
  | 0, _, _, _ => none
  | k + 1, x0, x1, x30 => if x30 = true then (some false) else ((sum_Add.f k x0 0).bind fun t142 => (if t142 = x0 then ((sum_Add.f k x0 (IntKind.u16.wrap (65535 - x0))).bind fun t143 => (if t143 = 65535 then ((sum_Add.f k 0 65535).bind fun t144 => (mosaiclaw01_SumAdds.j1 k x0 x1 (t144 != 65535))) else (mosaiclaw01_SumAdds.j1 k x0 x1 true))) else (mosaiclaw01_SumAdds.j1 k x0 x1 true)))
def mosaiclaw01_SumAdds.j1 : Nat → Int → Int → Bool → Option (Bool)
  | 0, _, _, _ => none
  | k + 1, x0, x1, x45 => if x45 = true then (some false) else (if x0 > 0 then ((sum_Add.f k x0 65535).bind fun t145 => (if t145 = x0 then ((sum_Add.f k x0 x1).bind fun t146 => (if x0 = 0 then (some ((t146 == 0) == (x1 == 0))) else (some ((t146 == 0) == false)))) else (some false))) else ((sum_Add.f k x0 x1).bind fun t147 => (if x0 = 0 then (some ((t147 == 0) == (x1 == 0))) else (some ((t147 == 0) == false)))))
end
def mosaiclaw01_SumAdds.f (k : Nat) (a0 : Int) (a1 : Int) (a2 : Int) : Option (Bool) := (mosaiclaw01_known.f k).bind fun t136 => (if t136 = true then ((sum_Add.f k a0 a1).bind fun t137 => ((sum_Add.f k a1 a0).bind fun t138 => (if t137 = t138 then ((sum_Add.f k t137 a2).bind fun t139 => ((sum_Add.f k a1 a2).bind fun t140 => ((sum_Add.f k a0 t140).bind fun t141 => (mosaiclaw01_SumAdds.j0 k a0 a1 (t139 != t141))))) else (mosaiclaw01_SumAdds.j0 k a0 a1 true)))) else (mosaiclaw01_SumAdds.j0 k a0 a1 true))
theorem mosaiclaw01_SumAdds.mono_l : ∀ k, (∀ y0 y1 y2, LeO (mosaiclaw01_SumAdds.j0 k y0 y1 y2) (mosaiclaw01_SumAdds.j0 (k + 1) y0 y1 y2)) ∧ (∀ y0 y1 y2, LeO (mosaiclaw01_SumAdds.j1 k y0 y1 y2) (mosaiclaw01_SumAdds.j1 (k + 1) y0 y1 y2))
  | 0 => ⟨fun _ _ _ r h => by simp [mosaiclaw01_SumAdds.j0] at h, fun _ _ _ r h => by simp [mosaiclaw01_SumAdds.j1] at h⟩
  | k + 1 => by
    obtain ⟨ih0, ih1⟩ := mosaiclaw01_SumAdds.mono_l k
    refine ⟨?_, ?_⟩
    · intro y0 y1 y2
      unfold mosaiclaw01_SumAdds.j0
      repeat' first
      | (with_reducible exact ih0 _ _ _)
      | (with_reducible exact ih1 _ _ _)
      | (with_reducible exact mosaiclaw01_known.mono _)
      | (with_reducible exact sum_Add.mono _ _ _)
      | (with_reducible exact LeO.refl _)
      | (with_reducible exact LeO.none _)
      | (with_reducible refine LeO.ite ?_ ?_)
      | (with_reducible refine LeO.bind ?_ (fun _ => ?_))
      | exact ih0 _ _ _
      | exact ih1 _ _ _
      | exact mosaiclaw01_known.mono _
      | exact sum_Add.mono _ _ _
      | exact LeO.none _
      | refine LeO.ite ?_ ?_
      | refine LeO.bind ?_ (fun _ => ?_)
    · intro y0 y1 y2
      unfold mosaiclaw01_SumAdds.j1
      repeat' first
      | (with_reducible exact ih0 _ _ _)
      | (with_reducible exact ih1 _ _ _)
      | (with_reducible exact mosaiclaw01_known.mono _)
      | (with_reducible exact sum_Add.mono _ _ _)
      | (with_reducible exact LeO.refl _)
      | (with_reducible exact LeO.none _)
      | (with_reducible refine LeO.ite ?_ ?_)
      | (with_reducible refine LeO.bind ?_ (fun _ => ?_))
      | exact ih0 _ _ _
      | exact ih1 _ _ _
      | exact mosaiclaw01_known.mono _
      | exact sum_Add.mono _ _ _
      | exact LeO.none _
      | refine LeO.ite ?_ ?_
      | refine LeO.bind ?_ (fun _ => ?_)
theorem mosaiclaw01_SumAdds.mono : ∀ a0 a1 a2 k, LeO (mosaiclaw01_SumAdds.f k a0 a1 a2) (mosaiclaw01_SumAdds.f (k + 1) a0 a1 a2) := by
  intro a0 a1 a2 k
  obtain ⟨ih0, ih1⟩ := mosaiclaw01_SumAdds.mono_l k
  unfold mosaiclaw01_SumAdds.f
  repeat' first
      | (with_reducible exact ih0 _ _ _)
      | (with_reducible exact ih1 _ _ _)
      | (with_reducible exact mosaiclaw01_known.mono _)
      | (with_reducible exact sum_Add.mono _ _ _)
      | (with_reducible exact LeO.refl _)
      | (with_reducible exact LeO.none _)
      | (with_reducible refine LeO.ite ?_ ?_)
      | (with_reducible refine LeO.bind ?_ (fun _ => ?_))
      | exact ih0 _ _ _
      | exact ih1 _ _ _
      | exact mosaiclaw01_known.mono _
      | exact sum_Add.mono _ _ _
      | exact LeO.none _
      | refine LeO.ite ?_ ?_
      | refine LeO.bind ?_ (fun _ => ?_)
set_option maxHeartbeats 8000000 in
set_option maxRecDepth 100000 in
theorem mosaiclaw01_SumAdds.calls (k : Nat) (a0 : Int) (a1 : Int) (a2 : Int) (r : Bool) (w : World) (h : mosaiclaw01_SumAdds.f k a0 a1 a2 = some r) :
    Calls Try.prog 4 #[.int .u16 a0, .int .u16 a1, .int .u16 a2] w fun e w' => e = .returned (.bool r) ∧ Below w.heap.size w w' := by
  have HB := Aside0.mk (Below.refl w.heap.size w)
  have H : ((mosaiclaw01_known.f k).bind fun t136 => (if t136 = true then ((sum_Add.f k a0 a1).bind fun t137 => ((sum_Add.f k a1 a0).bind fun t138 => (if t137 = t138 then ((sum_Add.f k t137 a2).bind fun t139 => ((sum_Add.f k a1 a2).bind fun t140 => ((sum_Add.f k a0 t140).bind fun t141 => (mosaiclaw01_SumAdds.j0 k a0 a1 (t139 != t141))))) else (mosaiclaw01_SumAdds.j0 k a0 a1 true)))) else (mosaiclaw01_SumAdds.j0 k a0 a1 true))) = some r := h
  clear h
  have HC4 := Aside0.mk H
  clear H
  go_enter Try.func4, Try.ntmps4
  go_upto_region 1 with (fail)
  go_cut [30] (fun v30 wc => ∃ (kq : Nat) (x30_3 : Bool), v30 = .bool x30_3 ∧ Aside0 (mosaiclaw01_SumAdds.j0 kq a0 a1 x30_3 = some r) ∧ Aside0 (kq ≤ k) ∧ Aside0 (Below w.heap.size w wc))
  case first =>
    have H := HC4.out
    clear HC4
    replace H := Option.bind_eq_some_iff.mp H
    obtain ⟨t136, A50, H⟩ := H
    replace H : (if t136 = true then ((sum_Add.f k a0 a1).bind fun t137 => ((sum_Add.f k a1 a0).bind fun t138 => (if t137 = t138 then ((sum_Add.f k t137 a2).bind fun t139 => ((sum_Add.f k a1 a2).bind fun t140 => ((sum_Add.f k a0 t140).bind fun t141 => (mosaiclaw01_SumAdds.j0 k a0 a1 (t139 != t141))))) else (mosaiclaw01_SumAdds.j0 k a0 a1 true)))) else (mosaiclaw01_SumAdds.j0 k a0 a1 true)) = some r := H
    have A5 := Aside0.mk A50
    clear A50
    by_cases c6 : t136 = true
    · subst c6
      have H1 : ((sum_Add.f k a0 a1).bind fun t137 => ((sum_Add.f k a1 a0).bind fun t138 => (if t137 = t138 then ((sum_Add.f k t137 a2).bind fun t139 => ((sum_Add.f k a1 a2).bind fun t140 => ((sum_Add.f k a0 t140).bind fun t141 => (mosaiclaw01_SumAdds.j0 k a0 a1 (t139 != t141))))) else (mosaiclaw01_SumAdds.j0 k a0 a1 true)))) = some r := by rw [if_pos rfl] at H; exact H
      clear H
      have H := H1
      clear H1
      replace H := Option.bind_eq_some_iff.mp H
      obtain ⟨t137, A70, H⟩ := H
      replace H : ((sum_Add.f k a1 a0).bind fun t138 => (if t137 = t138 then ((sum_Add.f k t137 a2).bind fun t139 => ((sum_Add.f k a1 a2).bind fun t140 => ((sum_Add.f k a0 t140).bind fun t141 => (mosaiclaw01_SumAdds.j0 k a0 a1 (t139 != t141))))) else (mosaiclaw01_SumAdds.j0 k a0 a1 true))) = some r := H
      have A7 := Aside0.mk A70
      clear A70
      replace H := Option.bind_eq_some_iff.mp H
      obtain ⟨t138, A80, H⟩ := H
      replace H : (if t137 = t138 then ((sum_Add.f k t137 a2).bind fun t139 => ((sum_Add.f k a1 a2).bind fun t140 => ((sum_Add.f k a0 t140).bind fun t141 => (mosaiclaw01_SumAdds.j0 k a0 a1 (t139 != t141))))) else (mosaiclaw01_SumAdds.j0 k a0 a1 true)) = some r := H
      have A8 := Aside0.mk A80
      clear A80
      by_cases c9 : t137 = t138
      · rw [if_pos c9] at H
        have c9b0 : (t137 == t138) = true := beq_iff_eq.mpr c9
        have c9b1 : (t137 != t138) = false := bne_eq_false_iff_eq.mpr c9
        clear c9
        (first | rw [c9b0] | (simp only [i64_w, i32_w]; rw [c9b0]) | skip)
        replace H := Option.bind_eq_some_iff.mp H
        obtain ⟨t139, A100, H⟩ := H
        replace H : ((sum_Add.f k a1 a2).bind fun t140 => ((sum_Add.f k a0 t140).bind fun t141 => (mosaiclaw01_SumAdds.j0 k a0 a1 (t139 != t141)))) = some r := H
        have A10 := Aside0.mk A100
        clear A100
        replace H := Option.bind_eq_some_iff.mp H
        obtain ⟨t140, A110, H⟩ := H
        replace H : ((sum_Add.f k a0 t140).bind fun t141 => (mosaiclaw01_SumAdds.j0 k a0 a1 (t139 != t141))) = some r := H
        have A11 := Aside0.mk A110
        clear A110
        replace H := Option.bind_eq_some_iff.mp H
        obtain ⟨t141, A120, H⟩ := H
        replace H : (mosaiclaw01_SumAdds.j0 k a0 a1 (t139 != t141)) = some r := H
        have A12 := Aside0.mk A120
        clear A120
        have H' := Aside0.mk H
        clear H
        go_wp2_with (first | ((with_reducible refine gate_callee (f := 10) rfl ?_); refine goesL_ (some 7) rfl rfl Try.func10 (by kernel_rfl) rfl #[] rfl (by (try simp only [List.map_toArray, List.map_cons, List.map_nil]); first | done | rfl | (simp only [List.length_drop, List.length_take]; rfl)) ?_; (with_reducible refine (mosaiclaw01_known.calls k  true _ A5.out).mono ?_); rintro e w13 ⟨rfl, hb⟩; refine ⟨_, rfl, ?_⟩; have n0_ := Aside0.mk (below_step (by repeat (first | (with_reducible first | exact HB.out | apply below_alloc | apply pw_below_drewN | apply below_drew1) | exact HB.out)) hb); clear HB; have HB := n0_; clear n0_; (try clear hb); (try clear hb2); (try clear hk); (try clear hi)) | (go_at_call 14; (with_reducible refine (sum_Add.calls k a0 a1 t137 _ A7.out).mono ?_); rintro e w' ⟨rfl, ⟨nd, rfl⟩⟩) | (go_at_call 14; (with_reducible refine (sum_Add.calls k a1 a0 t138 _ A8.out).mono ?_); rintro e w' ⟨rfl, ⟨nd, rfl⟩⟩) | (go_at_call 14; (with_reducible refine (sum_Add.calls k t137 a2 t139 _ A10.out).mono ?_); rintro e w' ⟨rfl, ⟨nd, rfl⟩⟩) | (go_at_call 14; (with_reducible refine (sum_Add.calls k a1 a2 t140 _ A11.out).mono ?_); rintro e w' ⟨rfl, ⟨nd, rfl⟩⟩) | (go_at_call 14; (with_reducible refine (sum_Add.calls k a0 t140 t141 _ A12.out).mono ?_); rintro e w' ⟨rfl, ⟨nd, rfl⟩⟩))
        go_meet
        case rel => exact ⟨_, ((t139 != t141)), (by first | rfl | (simp; done) | (simp [*]; done)), H', ⟨by first | omega | exact Nat.le_refl _⟩, ⟨by repeat (first | (with_reducible first | exact HB.out | apply below_alloc | apply pw_below_drewN | apply below_drew1) | exact HB.out)⟩⟩
      · rw [if_neg c9] at H
        have c9b0 : (t137 == t138) = false := beq_eq_false_iff_ne.mpr c9
        have c9b1 : (t137 != t138) = true := bne_iff_ne.mpr c9
        (first | rw [c9b0] | (simp only [i64_w, i32_w]; rw [c9b0]) | skip)
        have H' := Aside0.mk H
        clear H
        go_wp2_with (first | ((with_reducible refine gate_callee (f := 10) rfl ?_); refine goesL_ (some 7) rfl rfl Try.func10 (by kernel_rfl) rfl #[] rfl (by (try simp only [List.map_toArray, List.map_cons, List.map_nil]); first | done | rfl | (simp only [List.length_drop, List.length_take]; rfl)) ?_; (with_reducible refine (mosaiclaw01_known.calls k  true _ A5.out).mono ?_); rintro e w14 ⟨rfl, hb⟩; refine ⟨_, rfl, ?_⟩; have n0_ := Aside0.mk (below_step (by repeat (first | (with_reducible first | exact HB.out | apply below_alloc | apply pw_below_drewN | apply below_drew1) | exact HB.out)) hb); clear HB; have HB := n0_; clear n0_; (try clear hb); (try clear hb2); (try clear hk); (try clear hi)) | (go_at_call 14; (with_reducible refine (sum_Add.calls k a0 a1 t137 _ A7.out).mono ?_); rintro e w' ⟨rfl, ⟨nd, rfl⟩⟩) | (go_at_call 14; (with_reducible refine (sum_Add.calls k a1 a0 t138 _ A8.out).mono ?_); rintro e w' ⟨rfl, ⟨nd, rfl⟩⟩))
        go_meet
        case rel => exact ⟨_, (true), (by first | rfl | (simp; done) | (simp [*]; done)), H', ⟨by first | omega | exact Nat.le_refl _⟩, ⟨by repeat (first | (with_reducible first | exact HB.out | apply below_alloc | apply pw_below_drewN | apply below_drew1) | exact HB.out)⟩⟩
    · replace c6 := Bool.eq_false_iff.mpr c6
      subst c6
      have H1 : (mosaiclaw01_SumAdds.j0 k a0 a1 true) = some r := by rw [if_neg (show ¬ (false = true) by decide)] at H; exact H
      clear H
      have H := H1
      clear H1
      have H' := Aside0.mk H
      clear H
      go_wp2_with (first | ((with_reducible refine gate_callee (f := 10) rfl ?_); refine goesL_ (some 7) rfl rfl Try.func10 (by kernel_rfl) rfl #[] rfl (by (try simp only [List.map_toArray, List.map_cons, List.map_nil]); first | done | rfl | (simp only [List.length_drop, List.length_take]; rfl)) ?_; (with_reducible refine (mosaiclaw01_known.calls k  false _ A5.out).mono ?_); rintro e w15 ⟨rfl, hb⟩; refine ⟨_, rfl, ?_⟩; have n0_ := Aside0.mk (below_step (by repeat (first | (with_reducible first | exact HB.out | apply below_alloc | apply pw_below_drewN | apply below_drew1) | exact HB.out)) hb); clear HB; have HB := n0_; clear n0_; (try clear hb); (try clear hb2); (try clear hk); (try clear hi)))
      go_meet
      case rel => exact ⟨_, (true), (by first | rfl | (simp; done) | (simp [*]; done)), H', ⟨by first | omega | exact Nat.le_refl _⟩, ⟨by repeat (first | (with_reducible first | exact HB.out | apply below_alloc | apply pw_below_drewN | apply below_drew1) | exact HB.out)⟩⟩
  case rest =>
    clear HC4
    try clear c1
    try clear p2
    try clear c4
    try clear c6
    try clear c9
    try clear c9b0
    try clear c9b1
    try clear c10
    obtain ⟨kq, x30_3, rfl, HA, HJ3, HB⟩ := hcut
    cases kq with
    | zero => exact absurd HA.out (by simp [mosaiclaw01_SumAdds.j0])
    | succ kj3 =>
      have H := HA.out
      clear HA
      simp only [mosaiclaw01_SumAdds.j0] at H
      by_cases c16 : x30_3 = true
      · subst c16
        have H1 : (some false) = some r := by rw [if_pos rfl] at H; exact H
        clear H
        have H := H1
        clear H1
        obtain rfl := Option.some.inj H
        go_wp2
        go_ret
        exact ⟨by first | rfl | (simp [errW_none, errW_some] <;> rfl) | (simp [*, errW_none, errW_some] <;> rfl), by repeat (first | (with_reducible first | exact HB.out | apply below_alloc | apply pw_below_drewN | apply below_drew1) | exact HB.out)⟩
      · replace c16 := Bool.eq_false_iff.mpr c16
        subst c16
        have H1 : ((sum_Add.f kj3 a0 0).bind fun t142 => (if t142 = a0 then ((sum_Add.f kj3 a0 (IntKind.u16.wrap (65535 - a0))).bind fun t143 => (if t143 = 65535 then ((sum_Add.f kj3 0 65535).bind fun t144 => (mosaiclaw01_SumAdds.j1 kj3 a0 a1 (t144 != 65535))) else (mosaiclaw01_SumAdds.j1 kj3 a0 a1 true))) else (mosaiclaw01_SumAdds.j1 kj3 a0 a1 true))) = some r := by rw [if_neg (show ¬ (false = true) by decide)] at H; exact H
        clear H
        have H := H1
        clear H1
        have HC17 := Aside0.mk H
        clear H
        go_upto_region 3 with (fail)
        go_cut [45] (fun v45 wc => ∃ (kq : Nat) (x45_16 : Bool), v45 = .bool x45_16 ∧ Aside0 (mosaiclaw01_SumAdds.j1 kq a0 a1 x45_16 = some r) ∧ Aside0 (kq ≤ kj3) ∧ Aside0 (Below w.heap.size w wc))
        case first =>
          have H := HC17.out
          clear HC17
          replace H := Option.bind_eq_some_iff.mp H
          obtain ⟨t142, A180, H⟩ := H
          replace H : (if t142 = a0 then ((sum_Add.f kj3 a0 (IntKind.u16.wrap (65535 - a0))).bind fun t143 => (if t143 = 65535 then ((sum_Add.f kj3 0 65535).bind fun t144 => (mosaiclaw01_SumAdds.j1 kj3 a0 a1 (t144 != 65535))) else (mosaiclaw01_SumAdds.j1 kj3 a0 a1 true))) else (mosaiclaw01_SumAdds.j1 kj3 a0 a1 true)) = some r := H
          have A18 := Aside0.mk A180
          clear A180
          by_cases c19 : t142 = a0
          · rw [if_pos c19] at H
            have c19b0 : (t142 == a0) = true := beq_iff_eq.mpr c19
            have c19b1 : (t142 != a0) = false := bne_eq_false_iff_eq.mpr c19
            clear c19
            (first | rw [c19b0] | (simp only [i64_w, i32_w]; rw [c19b0]) | skip)
            replace H := Option.bind_eq_some_iff.mp H
            obtain ⟨t143, A200, H⟩ := H
            replace H : (if t143 = 65535 then ((sum_Add.f kj3 0 65535).bind fun t144 => (mosaiclaw01_SumAdds.j1 kj3 a0 a1 (t144 != 65535))) else (mosaiclaw01_SumAdds.j1 kj3 a0 a1 true)) = some r := H
            have A20 := Aside0.mk A200
            clear A200
            by_cases c21 : t143 = 65535
            · rw [if_pos c21] at H
              have c21b0 : (t143 == 65535) = true := beq_iff_eq.mpr c21
              have c21b1 : (t143 != 65535) = false := bne_eq_false_iff_eq.mpr c21
              clear c21
              replace H := Option.bind_eq_some_iff.mp H
              obtain ⟨t144, A220, H⟩ := H
              replace H : (mosaiclaw01_SumAdds.j1 kj3 a0 a1 (t144 != 65535)) = some r := H
              have A22 := Aside0.mk A220
              clear A220
              have H' := Aside0.mk H
              clear H
              go_wp2_with (first | ((with_reducible refine gate_callee (f := 14) rfl ?_); refine goesL_ (some 32) rfl rfl Try.func14 (by kernel_rfl) rfl #[.int .u16 a0, .int .u16 0] rfl (by (try simp only [List.map_toArray, List.map_cons, List.map_nil]); first | done | rfl | (simp only [List.length_drop, List.length_take]; rfl)) ?_; (with_reducible refine (sum_Add.calls kj3 a0 0 t142 _ A18.out).mono ?_); rintro e w' ⟨rfl, ⟨nd, rfl⟩⟩; refine ⟨_, rfl, ?_⟩) | (go_at_call 14; (with_reducible refine (sum_Add.calls kj3 a0 (IntKind.u16.wrap (65535 - a0)) t143 _ A20.out).mono ?_); rintro e w' ⟨rfl, ⟨nd, rfl⟩⟩) | (go_at_call 14; (with_reducible refine (sum_Add.calls kj3 0 65535 t144 _ A22.out).mono ?_); rintro e w' ⟨rfl, ⟨nd, rfl⟩⟩))
              go_meet
              case rel => exact ⟨_, ((t144 != 65535)), (by first | rfl | (simp; done) | (simp [*]; done)), H', ⟨by have := HJ3.out; first | omega | exact Nat.le_refl _⟩, ⟨by repeat (first | (with_reducible first | exact HB.out | apply below_alloc | apply pw_below_drewN | apply below_drew1) | exact HB.out)⟩⟩
            · rw [if_neg c21] at H
              have c21b0 : (t143 == 65535) = false := beq_eq_false_iff_ne.mpr c21
              have c21b1 : (t143 != 65535) = true := bne_iff_ne.mpr c21
              have H' := Aside0.mk H
              clear H
              go_wp2_with (first | ((with_reducible refine gate_callee (f := 14) rfl ?_); refine goesL_ (some 32) rfl rfl Try.func14 (by kernel_rfl) rfl #[.int .u16 a0, .int .u16 0] rfl (by (try simp only [List.map_toArray, List.map_cons, List.map_nil]); first | done | rfl | (simp only [List.length_drop, List.length_take]; rfl)) ?_; (with_reducible refine (sum_Add.calls kj3 a0 0 t142 _ A18.out).mono ?_); rintro e w' ⟨rfl, ⟨nd, rfl⟩⟩; refine ⟨_, rfl, ?_⟩) | (go_at_call 14; (with_reducible refine (sum_Add.calls kj3 a0 (IntKind.u16.wrap (65535 - a0)) t143 _ A20.out).mono ?_); rintro e w' ⟨rfl, ⟨nd, rfl⟩⟩))
              go_meet
              case rel => exact ⟨_, (true), (by first | rfl | (simp; done) | (simp [*]; done)), H', ⟨by have := HJ3.out; first | omega | exact Nat.le_refl _⟩, ⟨by repeat (first | (with_reducible first | exact HB.out | apply below_alloc | apply pw_below_drewN | apply below_drew1) | exact HB.out)⟩⟩
          · rw [if_neg c19] at H
            have c19b0 : (t142 == a0) = false := beq_eq_false_iff_ne.mpr c19
            have c19b1 : (t142 != a0) = true := bne_iff_ne.mpr c19
            (first | rw [c19b0] | (simp only [i64_w, i32_w]; rw [c19b0]) | skip)
            have H' := Aside0.mk H
            clear H
            go_wp2_with (first | ((with_reducible refine gate_callee (f := 14) rfl ?_); refine goesL_ (some 32) rfl rfl Try.func14 (by kernel_rfl) rfl #[.int .u16 a0, .int .u16 0] rfl (by (try simp only [List.map_toArray, List.map_cons, List.map_nil]); first | done | rfl | (simp only [List.length_drop, List.length_take]; rfl)) ?_; (with_reducible refine (sum_Add.calls kj3 a0 0 t142 _ A18.out).mono ?_); rintro e w' ⟨rfl, ⟨nd, rfl⟩⟩; refine ⟨_, rfl, ?_⟩))
            go_meet
            case rel => exact ⟨_, (true), (by first | rfl | (simp; done) | (simp [*]; done)), H', ⟨by have := HJ3.out; first | omega | exact Nat.le_refl _⟩, ⟨by repeat (first | (with_reducible first | exact HB.out | apply below_alloc | apply pw_below_drewN | apply below_drew1) | exact HB.out)⟩⟩
        case rest =>
          clear HC17
          try clear c1
          try clear c2
          try clear p2
          try clear c4
          try clear c6
          try clear c9
          try clear c9b0
          try clear c9b1
          try clear c10
          try clear c14
          try clear c16
          try clear c19
          try clear c19b0
          try clear c19b1
          try clear c21
          try clear c21b0
          try clear c21b1
          try clear p2
          obtain ⟨kq, x45_16, rfl, HA, HJ16, HB⟩ := hcut
          cases kq with
          | zero => exact absurd HA.out (by simp [mosaiclaw01_SumAdds.j1])
          | succ kj16 =>
            have H := HA.out
            clear HA
            simp only [mosaiclaw01_SumAdds.j1] at H
            by_cases c23 : x45_16 = true
            · subst c23
              have H1 : (some false) = some r := by rw [if_pos rfl] at H; exact H
              clear H
              have H := H1
              clear H1
              obtain rfl := Option.some.inj H
              go_wp2
              go_ret
              exact ⟨by first | rfl | (simp [errW_none, errW_some] <;> rfl) | (simp [*, errW_none, errW_some] <;> rfl), by repeat (first | (with_reducible first | exact HB.out | apply below_alloc | apply pw_below_drewN | apply below_drew1) | exact HB.out)⟩
            · replace c23 := Bool.eq_false_iff.mpr c23
              subst c23
              have H1 : (if a0 > 0 then ((sum_Add.f kj16 a0 65535).bind fun t145 => (if t145 = a0 then ((sum_Add.f kj16 a0 a1).bind fun t146 => (if a0 = 0 then (some ((t146 == 0) == (a1 == 0))) else (some ((t146 == 0) == false)))) else (some false))) else ((sum_Add.f kj16 a0 a1).bind fun t147 => (if a0 = 0 then (some ((t147 == 0) == (a1 == 0))) else (some ((t147 == 0) == false))))) = some r := by rw [if_neg (show ¬ (false = true) by decide)] at H; exact H
              clear H
              have H := H1
              clear H1
              by_cases c24 : a0 > 0
              · rw [if_pos c24] at H
                have c24b0 : decide (0 < a0) = true := decide_eq_true c24
                clear c24
                replace H := Option.bind_eq_some_iff.mp H
                obtain ⟨t145, A250, H⟩ := H
                replace H : (if t145 = a0 then ((sum_Add.f kj16 a0 a1).bind fun t146 => (if a0 = 0 then (some ((t146 == 0) == (a1 == 0))) else (some ((t146 == 0) == false)))) else (some false)) = some r := H
                have A25 := Aside0.mk A250
                clear A250
                by_cases c26 : t145 = a0
                · rw [if_pos c26] at H
                  have c26b0 : (t145 == a0) = true := beq_iff_eq.mpr c26
                  have c26b1 : (t145 != a0) = false := bne_eq_false_iff_eq.mpr c26
                  clear c26
                  replace H := Option.bind_eq_some_iff.mp H
                  obtain ⟨t146, A270, H⟩ := H
                  replace H : (if a0 = 0 then (some ((t146 == 0) == (a1 == 0))) else (some ((t146 == 0) == false))) = some r := H
                  have A27 := Aside0.mk A270
                  clear A270
                  by_cases c28 : a0 = 0
                  · rw [if_pos c28] at H
                    have c28b0 : (a0 == 0) = true := beq_iff_eq.mpr c28
                    have c28b1 : (a0 != 0) = false := bne_eq_false_iff_eq.mpr c28
                    clear c28
                    obtain rfl := Option.some.inj H
                    go_wp2_with (first | (go_at_call 14; (with_reducible refine (sum_Add.calls kj16 a0 65535 t145 _ A25.out).mono ?_); rintro e w' ⟨rfl, ⟨nd, rfl⟩⟩) | ((with_reducible refine gate_callee (f := 14) rfl ?_); refine goesL_ (some 56) rfl rfl Try.func14 (by kernel_rfl) rfl #[.int .u16 a0, .int .u16 a1] rfl (by (try simp only [List.map_toArray, List.map_cons, List.map_nil]); first | done | rfl | (simp only [List.length_drop, List.length_take]; rfl)) ?_; (with_reducible refine (sum_Add.calls kj16 a0 a1 t146 _ A27.out).mono ?_); rintro e w' ⟨rfl, ⟨nd, rfl⟩⟩; refine ⟨_, rfl, ?_⟩))
                    go_ret
                    exact ⟨by first | rfl | (simp [errW_none, errW_some] <;> rfl) | (simp [*, errW_none, errW_some] <;> rfl), by repeat (first | (with_reducible first | exact HB.out | apply below_alloc | apply pw_below_drewN | apply below_drew1) | exact HB.out)⟩
                  · rw [if_neg c28] at H
                    have c28b0 : (a0 == 0) = false := beq_eq_false_iff_ne.mpr c28
                    have c28b1 : (a0 != 0) = true := bne_iff_ne.mpr c28
                    obtain rfl := Option.some.inj H
                    go_wp2_with (first | (go_at_call 14; (with_reducible refine (sum_Add.calls kj16 a0 65535 t145 _ A25.out).mono ?_); rintro e w' ⟨rfl, ⟨nd, rfl⟩⟩) | ((with_reducible refine gate_callee (f := 14) rfl ?_); refine goesL_ (some 56) rfl rfl Try.func14 (by kernel_rfl) rfl #[.int .u16 a0, .int .u16 a1] rfl (by (try simp only [List.map_toArray, List.map_cons, List.map_nil]); first | done | rfl | (simp only [List.length_drop, List.length_take]; rfl)) ?_; (with_reducible refine (sum_Add.calls kj16 a0 a1 t146 _ A27.out).mono ?_); rintro e w' ⟨rfl, ⟨nd, rfl⟩⟩; refine ⟨_, rfl, ?_⟩))
                    go_ret
                    exact ⟨by first | rfl | (simp [errW_none, errW_some] <;> rfl) | (simp [*, errW_none, errW_some] <;> rfl), by repeat (first | (with_reducible first | exact HB.out | apply below_alloc | apply pw_below_drewN | apply below_drew1) | exact HB.out)⟩
                · rw [if_neg c26] at H
                  have c26b0 : (t145 == a0) = false := beq_eq_false_iff_ne.mpr c26
                  have c26b1 : (t145 != a0) = true := bne_iff_ne.mpr c26
                  obtain rfl := Option.some.inj H
                  go_wp2_with (first | (go_at_call 14; (with_reducible refine (sum_Add.calls kj16 a0 65535 t145 _ A25.out).mono ?_); rintro e w' ⟨rfl, ⟨nd, rfl⟩⟩))
                  go_ret
                  exact ⟨by first | rfl | (simp [errW_none, errW_some] <;> rfl) | (simp [*, errW_none, errW_some] <;> rfl), by repeat (first | (with_reducible first | exact HB.out | apply below_alloc | apply pw_below_drewN | apply below_drew1) | exact HB.out)⟩
              · rw [if_neg c24] at H
                have c24b0 : decide (0 < a0) = false := decide_eq_false c24
                clear c24
                replace H := Option.bind_eq_some_iff.mp H
                obtain ⟨t147, A290, H⟩ := H
                replace H : (if a0 = 0 then (some ((t147 == 0) == (a1 == 0))) else (some ((t147 == 0) == false))) = some r := H
                have A29 := Aside0.mk A290
                clear A290
                by_cases c30 : a0 = 0
                · rw [if_pos c30] at H
                  have c30b0 : (a0 == 0) = true := beq_iff_eq.mpr c30
                  have c30b1 : (a0 != 0) = false := bne_eq_false_iff_eq.mpr c30
                  clear c30
                  obtain rfl := Option.some.inj H
                  go_wp2_with (first | ((with_reducible refine gate_callee (f := 14) rfl ?_); refine goesL_ (some 56) rfl rfl Try.func14 (by kernel_rfl) rfl #[.int .u16 a0, .int .u16 a1] rfl (by (try simp only [List.map_toArray, List.map_cons, List.map_nil]); first | done | rfl | (simp only [List.length_drop, List.length_take]; rfl)) ?_; (with_reducible refine (sum_Add.calls kj16 a0 a1 t147 _ A29.out).mono ?_); rintro e w' ⟨rfl, ⟨nd, rfl⟩⟩; refine ⟨_, rfl, ?_⟩))
                  go_ret
                  exact ⟨by first | rfl | (simp [errW_none, errW_some] <;> rfl) | (simp [*, errW_none, errW_some] <;> rfl), by repeat (first | (with_reducible first | exact HB.out | apply below_alloc | apply pw_below_drewN | apply below_drew1) | exact HB.out)⟩
                · rw [if_neg c30] at H
                  have c30b0 : (a0 == 0) = false := beq_eq_false_iff_ne.mpr c30
                  have c30b1 : (a0 != 0) = true := bne_iff_ne.mpr c30
                  obtain rfl := Option.some.inj H
                  go_wp2_with (first | ((with_reducible refine gate_callee (f := 14) rfl ?_); refine goesL_ (some 56) rfl rfl Try.func14 (by kernel_rfl) rfl #[.int .u16 a0, .int .u16 a1] rfl (by (try simp only [List.map_toArray, List.map_cons, List.map_nil]); first | done | rfl | (simp only [List.length_drop, List.length_take]; rfl)) ?_; (with_reducible refine (sum_Add.calls kj16 a0 a1 t147 _ A29.out).mono ?_); rintro e w' ⟨rfl, ⟨nd, rfl⟩⟩; refine ⟨_, rfl, ?_⟩))
                  go_ret
                  exact ⟨by first | rfl | (simp [errW_none, errW_some] <;> rfl) | (simp [*, errW_none, errW_some] <;> rfl), by repeat (first | (with_reducible first | exact HB.out | apply below_alloc | apply pw_below_drewN | apply below_drew1) | exact HB.out)⟩

/-- THE ONE PURE STATEMENT of mosaiclaw01_SumAdds: yours. -/
def mosaiclaw01_SumAdds.Pure : Prop := ∀ (a0 : Int) (a1 : Int) (a2 : Int), (Lit.int .u16 a0).wf = true → (Lit.int .u16 a1).wf = true → (Lit.int .u16 a2).wf = true → ∃ k, mosaiclaw01_SumAdds.f k a0 a1 a2 = some true
theorem mosaiclaw01_SumAdds.walk (P : mosaiclaw01_SumAdds.Pure) (a0 : Int) (a1 : Int) (a2 : Int) (w : World) (w0 : (Lit.int .u16 a0).wf = true) (w1 : (Lit.int .u16 a1).wf = true) (w2 : (Lit.int .u16 a2).wf = true) :
    Calls Try.prog 4 #[.int .u16 a0, .int .u16 a1, .int .u16 a2] w fun e w' => e = .returned (.bool true) ∧ Below w.heap.size w w' := by
  obtain ⟨k, h⟩ := P a0 a1 a2 w0 w1 w2
  refine (mosaiclaw01_SumAdds.calls k a0 a1 a2 true w h).mono ?_
  rintro e w' ⟨rfl, hd⟩
  exact ⟨rfl, hd⟩

/-! ### mosaiclaw01_swapped: function 15 -/
def mosaiclaw01_swapped.l0 : Nat → List Int → List Int → Int → Option (List Int)
  | 0, _, _, _ => none
  | k + 1, x0, x3, x4 => if x4 < (x0.length : Int) then (if (wrap64 (x4 + 1)) < (x0.length : Int) then (if 0 ≤ (wrap64 (x4 + 1)) then (if 0 ≤ x4 then ((some (([rd x0 (wrap64 (x4 + 1)), rd x0 x4] : List Int) : List Int)).bind fun y150 => (if x3.length + y150.length < 140737488355328 then (mosaiclaw01_swapped.l0 k x0 (x3 ++ y150) (wrap64 (x4 + 2))) else (none))) else (none)) else (none)) else (if 0 ≤ x4 then ((some (([0, rd x0 x4] : List Int) : List Int)).bind fun y157 => (if x3.length + y157.length < 140737488355328 then (mosaiclaw01_swapped.l0 k x0 (x3 ++ y157) (wrap64 (x4 + 2))) else (none))) else (none))) else (some x3)
def mosaiclaw01_swapped.f (k : Nat) (l0 : List Int) : Option (List Int) := mosaiclaw01_swapped.l0 k l0 ([] : List Int) 0
theorem mosaiclaw01_swapped.mono_l : ∀ k, (∀ y0 y1 y2, LeO (mosaiclaw01_swapped.l0 k y0 y1 y2) (mosaiclaw01_swapped.l0 (k + 1) y0 y1 y2))
  | 0 => fun _ _ _ r h => by simp [mosaiclaw01_swapped.l0] at h
  | k + 1 => by
    have ih0 := mosaiclaw01_swapped.mono_l k
    · intro y0 y1 y2
      unfold mosaiclaw01_swapped.l0
      repeat' first
      | (with_reducible exact ih0 _ _ _)
      | (with_reducible exact LeO.refl _)
      | (with_reducible exact LeO.none _)
      | (with_reducible refine LeO.ite ?_ ?_)
      | (with_reducible refine LeO.bind ?_ (fun _ => ?_))
      | exact ih0 _ _ _
      | exact LeO.none _
      | refine LeO.ite ?_ ?_
      | refine LeO.bind ?_ (fun _ => ?_)
theorem mosaiclaw01_swapped.mono : ∀ a0 k, LeO (mosaiclaw01_swapped.f k a0) (mosaiclaw01_swapped.f (k + 1) a0) := by
  intro a0 k
  have ih0 := mosaiclaw01_swapped.mono_l k
  unfold mosaiclaw01_swapped.f
  repeat' first
      | (with_reducible exact ih0 _ _ _)
      | (with_reducible exact LeO.refl _)
      | (with_reducible exact LeO.none _)
      | (with_reducible refine LeO.ite ?_ ?_)
      | (with_reducible refine LeO.bind ?_ (fun _ => ?_))
      | exact ih0 _ _ _
      | exact LeO.none _
      | refine LeO.ite ?_ ?_
      | refine LeO.bind ?_ (fun _ => ?_)
def mosaiclaw01_swapped.T6 : Bool × List (List Nat × List Nat) := (true, [([], []), ([], []), ([], []), ([2], [2]), ([1, 3], [1, 3]), ([4], [4]), ([], []), ([], []), ([6, 7], [6, 7]), ([8], [8]), ([5, 9], [5, 9]), ([0, 10], [0, 10]), ([11, 11, 0, 1, 2, 3, 4, 5, 6, 7, 8, 9, 10, 11], [0, 11])])
def mosaiclaw01_swapped.B6 : List Nat := [0, 0, 0, 4, 14, 30, 0, 0, 192, 448, 1022, 2047, 4095]
theorem mosaiclaw01_swapped.tab6 : rtab .any (opsOf Try.f15 6) = mosaiclaw01_swapped.T6 := by kernel_rfl
theorem mosaiclaw01_swapped.bits6 : waitsOk mosaiclaw01_swapped.T6.2 mosaiclaw01_swapped.B6 = true := by kernel_rfl
set_option maxHeartbeats 8000000 in
set_option maxRecDepth 100000 in
theorem mosaiclaw01_swapped.calls (k : Nat) (A0 : Option Addr) (c0 : Nat) (l0 : List Int) (r : List Int) (w : World) (hr0 : Kd.C (Kd.int .u8) w A0 l0.length l0) (hc0 : l0.length ≤ c0) (h : mosaiclaw01_swapped.f k l0 = some r) :
    Calls Try.prog 15 #[.slice A0 l0.length c0] w fun e w' => ∃ v0_ : Value, e = .returned (v0_) ∧ Kd.R (Kd.int .u8) 5 w' w.heap.size (fun _ => True) v0_ r ∧ Below w.heap.size w w' := by
  have HR0 := Aside0.mk hr0
  have HC0 := Aside0.mk hc0
  clear hr0 hc0
  have HB := Aside0.mk (Below.refl w.heap.size w)
  have H : (mosaiclaw01_swapped.l0 k l0 ([] : List Int) 0) = some r := h
  clear h
  have H' := Aside0.mk H
  clear H
  go_enter Try.func15, Try.ntmps15
  go_wp2
  go_loopg [3, 4] k (fun kq v3 v4 w' => ∃ (x3_1 : List Int) (x4_1 : Int), v4 = .int .i64 x4_1 ∧ Aside0 (mosaiclaw01_swapped.l0 kq l0 x3_1 x4_1 = some r) ∧ Aside0 (kq ≤ k) ∧ Aside0 (Kd.R (Kd.int .u8) 5 w' w.heap.size (fun _ => True) v3 x3_1) ∧ Aside0 (Below w.heap.size w w'))
  case atStart => exact ⟨(([] : List Int)), (0), (by first | rfl | (simp; done) | (simp [*]; done)), H', ⟨Nat.le_refl _⟩, ⟨by first | exact Kd.R_nil _ _ _ _ _ | exact Kd.N_nil _ _ _ _ _ | exact Kd.V_nil _ _ _ _ _ | exact Kd.Q_nil _ _ _ _ _ | exact Kd.S_nil _ _ _ _ _⟩, ⟨by repeat (first | (with_reducible first | exact HB.out | apply below_alloc | apply pw_below_drewN | apply below_drew1) | exact HB.out)⟩⟩
  case round =>
    clear H'
    try clear c1
    obtain ⟨x3_1, x4_1, rfl, HA, HK1, HO_3, HB⟩ := hrel
    cases gk with
    | zero => exact absurd HA.out (by simp [mosaiclaw01_swapped.l0])
    | succ k1 =>
      have H := HA.out
      clear HA
      simp only [mosaiclaw01_swapped.l0] at H
      by_cases c2 : x4_1 < (l0.length : Int)
      · rw [if_pos c2] at H
        have c2b0 : decide (x4_1 < (l0.length : Int)) = true := decide_eq_true c2
        clear c2
        by_cases c3 : (wrap64 (x4_1 + 1)) < (l0.length : Int)
        · rw [if_pos c3] at H
          have c3b0 : decide ((wrap64 (x4_1 + 1)) < (l0.length : Int)) = true := decide_eq_true c3
          clear c3
          obtain ⟨ji4, hji4⟩ : ∃ j_ : Int, (wrap64 (x4_1 + 1)) = j_ := ⟨_, rfl⟩
          replace H : (if 0 ≤ (ji4) then (if 0 ≤ x4_1 then ((some (([rd l0 (ji4), rd l0 x4_1] : List Int) : List Int)).bind fun y150 => (if x3_1.length + y150.length < 140737488355328 then (mosaiclaw01_swapped.l0 k1 l0 (x3_1 ++ y150) (wrap64 (x4_1 + 2))) else (none))) else (none)) else (none)) = some r := by first | (rw [hji4] at H; exact H) | (simp only [hji4] at H ⊢; exact H)
          (try rw [hji4] at c3b0)
          have hji4w : (IntKind.i64.wrap (x4_1 + 1)) = ji4 := (i64_w _).trans hji4
          by_cases c5 : 0 ≤ (ji4)
          · rw [if_pos c5] at H
            have c5b0 : decide (0 ≤ (ji4)) = true := decide_eq_true c5
            clear c5
            by_cases c6 : 0 ≤ x4_1
            · rw [if_pos c6] at H
              have c6b0 : decide (0 ≤ x4_1) = true := decide_eq_true c6
              clear c6
              obtain ⟨y150, hy150⟩ : ∃ y_ : List Int, y_ = (([rd l0 (ji4), rd l0 x4_1] : List Int)) := ⟨_, rfl⟩
              replace H : (if x3_1.length + y150.length < 140737488355328 then (mosaiclaw01_swapped.l0 k1 l0 (x3_1 ++ y150) (wrap64 (x4_1 + 2))) else (none)) = some r := by first | (rw [hy150]; with_reducible exact H) | (have H2_ := (Option.bind_some _ _).symm.trans H; rw [hy150]; with_reducible exact H2_) | (have H2_ := (Option.bind_some _ _).symm.trans H; with_reducible exact H2_) | with_reducible exact H | (rw [hy150]; exact H) | exact H
              have Ny150 := Aside0.mk hy150
              clear hy150
              by_cases c7 : x3_1.length + y150.length < 140737488355328
              · rw [if_pos c7] at H
                have LMc7 := Aside0.mk c7
                clear c7
                obtain ⟨y153, hy153⟩ : ∃ y_ : List Int, y_ = (x3_1 ++ y150) := ⟨_, rfl⟩
                replace H : (mosaiclaw01_swapped.l0 k1 l0 y153 (wrap64 (x4_1 + 2))) = some r := by first | (rw [hy153]; with_reducible exact H) | (have H2_ := (Option.bind_some _ _).symm.trans H; rw [hy153]; with_reducible exact H2_) | (have H2_ := (Option.bind_some _ _).symm.trans H; with_reducible exact H2_) | with_reducible exact H | (rw [hy153]; exact H) | exact H
                have Ny153 := Aside0.mk hy153
                clear hy153
                have H' := Aside0.mk H
                clear H
                try go_wp2
                have n0_ := Aside0.mk (Kd.R_drew HO_3.out)
                have n1_ := Aside0.mk (below_drew1 HB.out)
                clear HO_3
                clear HB
                have HO_3 := n0_
                have HB := n1_
                clear n0_ n1_
                have p148 : 0 ≤ ((ji4) : Int) := of_decide_eq_true (by first | (with_reducible assumption) | assumption)
                have q148 : (ji4) < (l0.length : Int) := of_decide_eq_true (by first | (with_reducible assumption) | assumption)
                obtain ⟨ad148, e148, hx148_0⟩ := Kd.at_int HR0.out (ji4) p148 q148
                have hw148_0 := hx148_0
                cases e148
                replace hx148_0 := (HB.out.cell (World.block_lt_of_cell? w _ hx148_0)).trans hx148_0
                replace p148 := eq_true p148
                replace q148 := eq_true q148
                have p149 : 0 ≤ (x4_1 : Int) := of_decide_eq_true (by first | (with_reducible assumption) | assumption)
                have q149 : x4_1 < (l0.length : Int) := of_decide_eq_true (by first | (with_reducible assumption) | assumption)
                obtain ⟨ad149, e149, hx149_0⟩ := Kd.at_int HR0.out x4_1 p149 q149
                have hw149_0 := hx149_0
                obtain rfl : ad148 = ad149 := (by injection e149)
                replace hx149_0 := (HB.out.cell (World.block_lt_of_cell? w _ hx149_0)).trans hx149_0
                replace p149 := eq_true p149
                replace q149 := eq_true q149
                refine start_ (n := 13) (S := fun w' => w'.cell? (ad148.add ((ji4)).toNat) = some (.int .u8 (rd l0 (ji4))) ∧ w'.cell? (ad148.add (x4_1).toNat) = some (.int .u8 (rd l0 x4_1))) (ds := []) #[false, false, false, false, false, false, false, false, false, false, false, false, false] (by kernel_rfl) rfl rfl ⟨((HB.out.cell (World.block_lt_of_cell? w _ hw148_0)).trans hw148_0), ((HB.out.cell (World.block_lt_of_cell? w _ hw149_0)).trans hw149_0)⟩ (fun hHeld => ?_); refine with_tabW mosaiclaw01_swapped.tab6 mosaiclaw01_swapped.bits6 (fun HT_ HW_ => ?_)
                generalize wr.drew = w8 at HO_3 HB hx148_0 hx149_0 hHeld ⊢
                refine pure_ (i := 0) (N := some 16) (v := ?_) (a' := ?_) #[true, false, false, false, false, false, false, false, false, false, false, false, false] rfl rfl (any_of HT_.out (by kernel_rfl)) (fun _ _ _ h => h) (Or.inl ⟨by rfl, ?_⟩) ?_ ?_
                rotate_left
                · intro w'
                  go_simp
                  with_reducible rfl
                rotate_left
                · simp only [Act.put, List.setIfInBounds_toArray, List.set_cons_zero, List.set_cons_succ, i64_w, i32_w]
                  rfl
                refine pure_ (i := 1) (N := some 17) (v := ?_) (a' := ?_) #[true, true, false, false, false, false, false, false, false, false, false, false, false] rfl rfl (any_of HT_.out (by kernel_rfl)) (fun _ _ _ h => h) (Or.inl ⟨by rfl, ?_⟩) ?_ ?_
                rotate_left
                · intro w'
                  go_simp
                  with_reducible rfl
                rotate_left
                · simp only [Act.put, List.setIfInBounds_toArray, List.set_cons_zero, List.set_cons_succ, i64_w, i32_w]
                  rfl
                refine pure_ (i := 2) (N := some 18) (v := ?_) (a' := ?_) #[true, true, true, false, false, false, false, false, false, false, false, false, false] rfl rfl (any_of HT_.out (by kernel_rfl)) (fun _ _ _ h => h) (Or.inl ⟨by rfl, ?_⟩) ?_ ?_
                rotate_left
                · intro w'
                  go_simp
                  with_reducible rfl
                rotate_left
                · simp only [Act.put, List.setIfInBounds_toArray, List.set_cons_zero, List.set_cons_succ, i64_w, i32_w]
                  rfl
                refine pure_ (i := 3) (N := some 19) (v := ?_) (a' := ?_) #[true, true, true, true, false, false, false, false, false, false, false, false, false] rfl rfl (any_of HT_.out (by kernel_rfl)) (fun _ _ _ h => h) (Or.inl ⟨by rfl, ?_⟩) ?_ ?_
                rotate_left
                · intro w'
                  go_simp
                  with_reducible rfl
                rotate_left
                · simp only [Act.put, List.setIfInBounds_toArray, List.set_cons_zero, List.set_cons_succ, i64_w, i32_w]
                  rfl
                refine pure_ (i := 4) (N := some 20) (v := ?_) (a' := ?_) #[true, true, true, true, true, false, false, false, false, false, false, false, false] rfl rfl (any_of HT_.out (by kernel_rfl)) (fun _ _ _ h => h) (Or.inl ⟨by rfl, ?_⟩) ?_ ?_
                rotate_left
                · intro w'
                  go_simp
                  with_reducible rfl
                rotate_left
                · simp only [Act.put, List.setIfInBounds_toArray, List.set_cons_zero, List.set_cons_succ, i64_w, i32_w]
                  rfl
                refine pure_ (i := 6) (N := some 22) (v := ?_) (a' := ?_) #[true, true, true, true, true, false, true, false, false, false, false, false, false] rfl rfl (any_of HT_.out (by kernel_rfl)) (fun _ _ _ h => h) (Or.inl ⟨by rfl, ?_⟩) ?_ ?_
                rotate_left
                · intro w'
                  go_simp
                  with_reducible rfl
                rotate_left
                · simp only [Act.put, List.setIfInBounds_toArray, List.set_cons_zero, List.set_cons_succ, i64_w, i32_w]
                  rfl
                refine pure_ (i := 7) (N := some 23) (v := ?_) (a' := ?_) #[true, true, true, true, true, false, true, true, false, false, false, false, false] rfl rfl (any_of HT_.out (by kernel_rfl)) (fun _ _ _ h => h) (Or.inl ⟨by rfl, ?_⟩) ?_ ?_
                rotate_left
                · intro w'
                  go_simp
                  with_reducible rfl
                rotate_left
                · simp only [Act.put, List.setIfInBounds_toArray, List.set_cons_zero, List.set_cons_succ, i64_w, i32_w]
                  rfl
                refine pure_ (i := 8) (N := some 24) (v := ?_) (a' := ?_) #[true, true, true, true, true, false, true, true, true, false, false, false, false] rfl rfl (any_of HT_.out (by kernel_rfl)) (fun _ _ _ h => h) (Or.inl ⟨by rfl, ?_⟩) ?_ ?_
                rotate_left
                · intro w'
                  go_simp
                  with_reducible rfl
                rotate_left
                · simp only [Act.put, List.setIfInBounds_toArray, List.set_cons_zero, List.set_cons_succ, i64_w, i32_w]
                  rfl
                refine take_ (i := 5) (N := some 21) (v := ?_) (a' := ?_) #[true, true, true, true, true, true, true, true, true, false, false, false, false] rfl rfl (take_ofW HT_.out HW_.out (by kernel_rfl)) (fun _ _ _ h => h) (Or.inl ⟨by rfl, ?_⟩) hHeld ?_ ?_
                rotate_left
                · rintro w' ⟨s0, s1⟩
                  go_simp
                  with_reducible rfl
                rotate_left
                · simp only [Act.put, List.setIfInBounds_toArray, List.set_cons_zero, List.set_cons_succ, i64_w, i32_w]
                  rfl
                refine take_ (i := 9) (N := some 25) (v := ?_) (a' := ?_) #[true, true, true, true, true, true, true, true, true, true, false, false, false] rfl rfl (take_ofW HT_.out HW_.out (by kernel_rfl)) (fun _ _ _ h => h) (Or.inl ⟨by rfl, ?_⟩) hHeld ?_ ?_
                rotate_left
                · rintro w' ⟨s0, s1⟩
                  go_simp
                  with_reducible rfl
                rotate_left
                · simp only [Act.put, List.setIfInBounds_toArray, List.set_cons_zero, List.set_cons_succ, i64_w, i32_w]
                  rfl
                refine one_ (i := 10) (N := some 26) #[true, true, true, true, true, true, true, true, true, true, true, false, false] rfl rfl (one_of HT_.out (by kernel_rfl)) (by decide) (fun K hK => ?_)
                refine Kd.R_lit_step (Kd.int .u8) _ 5 ?hg (N := 26) ?hd (xs := ([rd l0 (ji4), rd l0 x4_1] : List Int)) (inner := [.int .u8 (rd l0 (ji4)), .int .u8 (rd l0 x4_1)]) (ok := fun _ => True) (okp := fun _ => True) ?hr ?hp (fun _ hk => hk) trivial (Below.refl _ _) (Nat.le_refl _) (by simp) ?_; (case hd => rfl); (case hg => rfl); (case hr => first | (go_simp; done) | (go_simp; rfl)); (case hp => exact (Reps.one (show Kd.M (Kd.int .u8) _ _ _ (rd l0 (ji4)) [.int .u8 (rd l0 (ji4))] from rfl) (Reps.one (show Kd.M (Kd.int .u8) _ _ _ (rd l0 x4_1) [.int .u8 (rd l0 x4_1)] from rfl) (Reps.none _ _))))
                intro v151 w9 ho10 hb hg_ hnew_
                clear hg_ hnew_
                (first | rw [← Ny150.out] at ho10 | (simp only [Int.reduceToNat] at ho10; rw [← Ny150.out] at ho10))
                have n0_ := Aside0.mk (Kd.R_elder' (by (with_reducible repeat (first | apply Kd.R_alloc | apply Kd.R_drewN | apply Kd.R_drew)); exact HO_3.out) (Kd.R_base ho10) hb)
                have n1_ := Aside0.mk (Kd.R_lower (Kd.R_new' ho10 (Kd.R_lt (by (with_reducible repeat (first | apply Kd.R_alloc | apply Kd.R_drewN | apply Kd.R_drew)); exact HO_3.out))) (below_size (by repeat (first | (with_reducible first | exact HB.out | apply below_alloc | apply pw_below_drewN | apply below_drew1) | exact HB.out))))
                have n2_ := Aside0.mk (below_step (by repeat (first | (with_reducible first | exact HB.out | apply below_alloc | apply pw_below_drewN | apply below_drew1) | exact HB.out)) hb)
                clear HO_3
                clear HB
                have HO_3 := n0_
                have HO152 := n1_
                have HB := n2_
                clear n0_ n1_ n2_
                clear hb ho10
                obtain ⟨Ao12, co12, eo12⟩ := Kd.R_slice HO152.out
                (first | subst eo12 | (injection eo12 with f1_ f2_ f3_; have f4_ := f1_.symm; have f5_ := f3_.symm; clear f1_ f2_ f3_; subst f4_; subst f5_))
                refine hK.out _ _ ⟨((HB.out.cell (World.block_lt_of_cell? w _ hw148_0)).trans hw148_0), ((HB.out.cell (World.block_lt_of_cell? w _ hw149_0)).trans hw149_0)⟩ (fun hHeld => ?_)
                clear hK K
                refine norm_ (a' := ?_) ?_ ?_
                rotate_left
                · show Act.put _ (some 26) _ = _
                  simp only [Act.put, List.setIfInBounds_toArray, List.set_cons_zero, List.set_cons_succ, i64_w, i32_w]
                  rfl
                refine one_ (i := 11) (N := some 27) #[true, true, true, true, true, true, true, true, true, true, true, true, false] rfl rfl (one_of HT_.out (by kernel_rfl)) (by decide) (fun K hK => ?_)
                refine Kd.R_append_rows_step (Kd.int .u8) (w0 := w) w.heap.size (by rfl) (.tmp 16) (.tmp 26) 22 5 (.int .u8 0) 1 rfl Try.underlying22 info5 rfl (by decide) (by omega) u3 x3_1 y150 _ _ _ (fun k_ => some k_ ≠ (.slice Ao12 y150.length co12 : Value).ownBlock) (fun _ => False) rfl rfl ?aO ?aR (fun _ _ h => h) (fun _ h => h.elim) ?aF ?aB ?aS ?aL ?_
                (case aR => repeat (first | exact (Kd.R_reads' HO152.out).2.2 | (with_reducible refine Kd.C_alloc ?_ _) | (with_reducible refine Kd.C_drewN ?_ _) | (with_reducible refine Kd.C_drew ?_)))
                (case aB => exact (by repeat (first | (with_reducible first | exact HB.out | apply below_alloc | apply pw_below_drewN | apply below_drew1) | exact HB.out)))
                (case aF => exact (fun k_ hk => Kd.fresh' (Kd.R_lt (by (with_reducible repeat (first | apply Kd.R_alloc | apply Kd.R_drewN | apply Kd.R_drew)); exact HO152.out)) k_ hk))
                (case aO => exact (by (with_reducible repeat (first | apply Kd.R_alloc | apply Kd.R_drewN | apply Kd.R_drew)); exact Kd.R_mono HO_3.out (fun _ hk => hk.2)))
                (case aS => exact (below_size (by repeat (first | (with_reducible first | exact HB.out | apply below_alloc | apply pw_below_drewN | apply below_drew1) | exact HB.out))))
                (case aL => have := LMc7.out; omega)
                intro v154 w11 ho hb hg hat
                rw [← Ny153.out] at ho
                have n0_ := Aside0.mk (Kd.R_after (ok := (fun _ => True)) (by (with_reducible repeat (first | apply Kd.R_alloc | apply Kd.R_drewN | apply Kd.R_drew)); exact HO152.out) hg hat)
                have n1_ := Aside0.mk (hb)
                have n2_ := Aside0.mk (ho)
                clear HO152
                clear HB
                clear HO_3
                have HO152 := n0_
                have HB := n1_
                have HO155 := n2_
                clear n0_ n1_ n2_
                clear ho hb hg hat
                refine hK.out _ _ ⟨((HB.out.cell (World.block_lt_of_cell? w _ hw148_0)).trans hw148_0), ((HB.out.cell (World.block_lt_of_cell? w _ hw149_0)).trans hw149_0)⟩ (fun hHeld => ?_)
                clear hK K
                refine norm_ (a' := ?_) ?_ ?_
                rotate_left
                · show Act.put _ (some 27) _ = _
                  simp only [Act.put, List.setIfInBounds_toArray, List.set_cons_zero, List.set_cons_succ, i64_w, i32_w]
                  rfl
                refine pure_ (i := 12) (N := some 3) (v := ?_) (a' := ?_) #[true, true, true, true, true, true, true, true, true, true, true, true, true] rfl rfl (any_of HT_.out (by kernel_rfl)) (fun _ _ _ h => h) (Or.inl ⟨by rfl, ?_⟩) ?_ ?_
                rotate_left
                · intro w'
                  go_simp
                  with_reducible rfl
                rotate_left
                · simp only [Act.put, List.setIfInBounds_toArray, List.set_cons_zero, List.set_cons_succ, i64_w, i32_w]
                  rfl
                refine done_ (done_of HT_.out (by kernel_rfl)) ?_
                try go_wp2
                go_roundg k1
                case measure => have := HK1.out; omega
                case rel => exact ⟨(y153), (wrap64 (x4_1 + 2)), (by first | rfl | (simp; done) | (simp [*]; done)), H', ⟨by have := HK1.out; omega⟩, ⟨by (with_reducible repeat (first | apply Kd.R_alloc | apply Kd.R_drewN | apply Kd.R_drew)); exact Kd.R_mono HO155.out (fun _ hk => trivial)⟩, ⟨by repeat (first | (with_reducible first | exact HB.out | apply below_alloc | apply pw_below_drewN | apply below_drew1) | exact HB.out)⟩⟩
              · rw [if_neg c7] at H
                exact absurd H (by simp)
            · rw [if_neg c6] at H
              exact absurd H (by simp)
          · rw [if_neg c5] at H
            exact absurd H (by simp)
        · rw [if_neg c3] at H
          have c3b0 : decide ((wrap64 (x4_1 + 1)) < (l0.length : Int)) = false := decide_eq_false c3
          clear c3
          by_cases c13 : 0 ≤ x4_1
          · rw [if_pos c13] at H
            have c13b0 : decide (0 ≤ x4_1) = true := decide_eq_true c13
            clear c13
            obtain ⟨y157, hy157⟩ : ∃ y_ : List Int, y_ = (([0, rd l0 x4_1] : List Int)) := ⟨_, rfl⟩
            replace H : (if x3_1.length + y157.length < 140737488355328 then (mosaiclaw01_swapped.l0 k1 l0 (x3_1 ++ y157) (wrap64 (x4_1 + 2))) else (none)) = some r := by first | (rw [hy157]; with_reducible exact H) | (have H2_ := (Option.bind_some _ _).symm.trans H; rw [hy157]; with_reducible exact H2_) | (have H2_ := (Option.bind_some _ _).symm.trans H; with_reducible exact H2_) | with_reducible exact H | (rw [hy157]; exact H) | exact H
            have Ny157 := Aside0.mk hy157
            clear hy157
            by_cases c14 : x3_1.length + y157.length < 140737488355328
            · rw [if_pos c14] at H
              have LMc14 := Aside0.mk c14
              clear c14
              obtain ⟨y160, hy160⟩ : ∃ y_ : List Int, y_ = (x3_1 ++ y157) := ⟨_, rfl⟩
              replace H : (mosaiclaw01_swapped.l0 k1 l0 y160 (wrap64 (x4_1 + 2))) = some r := by first | (rw [hy160]; with_reducible exact H) | (have H2_ := (Option.bind_some _ _).symm.trans H; rw [hy160]; with_reducible exact H2_) | (have H2_ := (Option.bind_some _ _).symm.trans H; with_reducible exact H2_) | with_reducible exact H | (rw [hy160]; exact H) | exact H
              have Ny160 := Aside0.mk hy160
              clear hy160
              have H' := Aside0.mk H
              clear H
              have p156 : 0 ≤ (x4_1 : Int) := of_decide_eq_true (by first | (with_reducible assumption) | assumption)
              have q156 : x4_1 < (l0.length : Int) := of_decide_eq_true (by first | (with_reducible assumption) | assumption)
              obtain ⟨ad156, e156, hx156_0⟩ := Kd.at_int HR0.out x4_1 p156 q156
              cases e156
              replace hx156_0 := (HB.out.cell (World.block_lt_of_cell? w _ hx156_0)).trans hx156_0
              replace p156 := eq_true p156
              replace q156 := eq_true q156
              go_wp2_with (first | ((with_reducible refine gate_dst (N := 33) rfl ?_); refine Kd.R_lit (Kd.int .u8) _ 5 ?hg (N := 33) ?hd (xs := ([0, rd l0 x4_1] : List Int)) (inner := [.int .u8 0, .int .u8 (rd l0 x4_1)]) (ok := fun _ => True) (okp := fun _ => True) ?hr ?hp (fun _ hk => hk) trivial (Below.refl _ _) (Nat.le_refl _) (by simp) ?_; (case hd => rfl); (case hg => rfl); (case hr => first | (go_simp; done) | (go_simp; rfl)); (case hp => exact (Reps.one (show Kd.M (Kd.int .u8) _ _ _ 0 [.int .u8 0] from rfl) (Reps.one (show Kd.M (Kd.int .u8) _ _ _ (rd l0 x4_1) [.int .u8 (rd l0 x4_1)] from rfl) (Reps.none _ _)))); intro v158 w15 ho16 hb hg_ hnew_; clear hg_ hnew_; (first | rw [← Ny157.out] at ho16 | (simp only [Int.reduceToNat] at ho16; rw [← Ny157.out] at ho16)); have n0_ := Aside0.mk (Kd.R_elder' (by (with_reducible repeat (first | apply Kd.R_alloc | apply Kd.R_drewN | apply Kd.R_drew)); exact HO_3.out) (Kd.R_base ho16) hb); have n1_ := Aside0.mk (Kd.R_lower (Kd.R_new' ho16 (Kd.R_lt (by (with_reducible repeat (first | apply Kd.R_alloc | apply Kd.R_drewN | apply Kd.R_drew)); exact HO_3.out))) (below_size (by repeat (first | (with_reducible first | exact HB.out | apply below_alloc | apply pw_below_drewN | apply below_drew1) | exact HB.out)))); have n2_ := Aside0.mk (below_step (by repeat (first | (with_reducible first | exact HB.out | apply below_alloc | apply pw_below_drewN | apply below_drew1) | exact HB.out)) hb); clear HO_3; clear HB; have HO_3 := n0_; have HO159 := n1_; have HB := n2_; clear n0_ n1_ n2_; clear hb ho16; obtain ⟨Ao18, co18, eo18⟩ := Kd.R_slice HO159.out; subst eo18) | ((with_reducible refine gate_builtin (b := .append) (xs := #[(.tmp 28), (.tmp 33)]) rfl ?_); at_builtin; refine Kd.R_append_rows (Kd.int .u8) (w0 := w) w.heap.size rfl (.tmp 28) (.tmp 33) 22 5 (.int .u8 0) 1 rfl Try.underlying22 info5 rfl (by decide) (by omega) u3 x3_1 y157 _ _ _ (fun k_ => some k_ ≠ (.slice Ao18 y157.length co18 : Value).ownBlock) (fun _ => False) rfl rfl ?aO ?aR (fun _ _ h => h) (fun _ h => h.elim) ?aF ?aB ?aS ?aL ?_; (case aR => repeat (first | exact (Kd.R_reads' HO159.out).2.2 | (with_reducible refine Kd.C_alloc ?_ _) | (with_reducible refine Kd.C_drewN ?_ _) | (with_reducible refine Kd.C_drew ?_))); (case aB => exact (by repeat (first | (with_reducible first | exact HB.out | apply below_alloc | apply pw_below_drewN | apply below_drew1) | exact HB.out))); (case aF => exact (fun k_ hk => Kd.fresh' (Kd.R_lt (by (with_reducible repeat (first | apply Kd.R_alloc | apply Kd.R_drewN | apply Kd.R_drew)); exact HO159.out)) k_ hk)); (case aO => exact (by (with_reducible repeat (first | apply Kd.R_alloc | apply Kd.R_drewN | apply Kd.R_drew)); exact Kd.R_mono HO_3.out (fun _ hk => hk.2))); (case aS => exact (below_size (by repeat (first | (with_reducible first | exact HB.out | apply below_alloc | apply pw_below_drewN | apply below_drew1) | exact HB.out)))); (case aL => have := LMc14.out; omega); intro v161 w17 ho hb hg hat; rw [← Ny160.out] at ho; have n0_ := Aside0.mk (Kd.R_after (ok := (fun _ => True)) (by (with_reducible repeat (first | apply Kd.R_alloc | apply Kd.R_drewN | apply Kd.R_drew)); exact HO159.out) hg hat); have n1_ := Aside0.mk (hb); have n2_ := Aside0.mk (ho); clear HO159; clear HB; clear HO_3; have HO159 := n0_; have HB := n1_; have HO162 := n2_; clear n0_ n1_ n2_; clear ho hb hg hat))
              go_roundg k1
              case measure => have := HK1.out; omega
              case rel => exact ⟨(y160), (wrap64 (x4_1 + 2)), (by first | rfl | (simp; done) | (simp [*]; done)), H', ⟨by have := HK1.out; omega⟩, ⟨by (with_reducible repeat (first | apply Kd.R_alloc | apply Kd.R_drewN | apply Kd.R_drew)); exact Kd.R_mono HO162.out (fun _ hk => trivial)⟩, ⟨by repeat (first | (with_reducible first | exact HB.out | apply below_alloc | apply pw_below_drewN | apply below_drew1) | exact HB.out)⟩⟩
            · rw [if_neg c14] at H
              exact absurd H (by simp)
          · rw [if_neg c13] at H
            exact absurd H (by simp)
      · rw [if_neg c2] at H
        have c2b0 : decide (x4_1 < (l0.length : Int)) = false := decide_eq_false c2
        clear c2
        obtain rfl := Option.some.inj H
        go_wp2
        go_ret
        exact ⟨_, by first | rfl | (simp [errW_none, errW_some] <;> rfl) | (simp [*, errW_none, errW_some] <;> rfl), by (with_reducible repeat (first | apply Kd.R_alloc | apply Kd.R_drewN | apply Kd.R_drew)); exact HO_3.out, by repeat (first | (with_reducible first | exact HB.out | apply below_alloc | apply pw_below_drewN | apply below_drew1) | exact HB.out)⟩

/-! ### mosaiclaw01_own: function 17 -/
def mosaiclaw01_own.f (l0 : List Int) : Option (List Int) := if ([] : List Int).length + l0.length < 140737488355328 then (some (([] : List Int) ++ l0)) else (none)
set_option maxHeartbeats 8000000 in
set_option maxRecDepth 100000 in
theorem mosaiclaw01_own.calls (A0 : Option Addr) (c0 : Nat) (l0 : List Int) (r : List Int) (w : World) (hr0 : Kd.C (Kd.int .u8) w A0 l0.length l0) (hc0 : l0.length ≤ c0) (h : mosaiclaw01_own.f l0 = some r) :
    Calls Try.prog 17 #[.slice A0 l0.length c0] w fun e w' => ∃ v0_ : Value, e = .returned (v0_) ∧ Kd.R (Kd.int .u8) 5 w' w.heap.size (fun _ => True) v0_ r ∧ Below w.heap.size w w' := by
  have HR0 := Aside0.mk hr0
  have HC0 := Aside0.mk hc0
  clear hr0 hc0
  have HB := Aside0.mk (Below.refl w.heap.size w)
  have H : (if ([] : List Int).length + l0.length < 140737488355328 then (some (([] : List Int) ++ l0)) else (none)) = some r := h
  clear h
  by_cases c2 : ([] : List Int).length + l0.length < 140737488355328
  · rw [if_pos c2] at H
    have LMc2 := Aside0.mk c2
    clear c2
    obtain ⟨y163, hy163⟩ : ∃ y_ : List Int, y_ = (([] : List Int) ++ l0) := ⟨_, rfl⟩
    replace H : (some y163) = some r := by first | (rw [hy163]; with_reducible exact H) | (have H2_ := (Option.bind_some _ _).symm.trans H; rw [hy163]; with_reducible exact H2_) | (have H2_ := (Option.bind_some _ _).symm.trans H; with_reducible exact H2_) | with_reducible exact H | (rw [hy163]; exact H) | exact H
    have Ny163 := Aside0.mk hy163
    clear hy163
    obtain rfl := Option.some.inj H
    go_enter Try.func17, Try.ntmps17
    go_wp2_with (first | ((with_reducible refine gate_builtin (b := .append) (xs := #[(.const (.slice none 0 0)), (.tmp 3)]) rfl ?_); at_builtin; refine Kd.R_append_rows (Kd.int .u8) (w0 := w) w.heap.size rfl (.const (.slice none 0 0)) (.tmp 3) 22 5 (.int .u8 0) 1 rfl Try.underlying22 info5 rfl (by decide) (by omega) (.slice none 0 0) ([] : List Int) l0 _ _ _ (fun _ => True) (fun _ => False) rfl rfl ?aO ?aR (fun _ _ h => h) (fun _ h => h.elim) ?aF ?aB ?aS ?aL ?_; (case aR => repeat (first | exact HR0.out | (with_reducible refine Kd.C_alloc ?_ _) | (with_reducible refine Kd.C_drewN ?_ _) | (with_reducible refine Kd.C_drew ?_))); (case aB => exact (by repeat (first | (with_reducible first | exact HB.out | apply below_alloc | apply pw_below_drewN | apply below_drew1) | exact HB.out))); (case aF => exact (fun _ _ => trivial)); (case aO => exact ((Kd.R_nil _ _ _ _ (fun _ => True)))); (case aS => exact (below_size (by repeat (first | (with_reducible first | exact HB.out | apply below_alloc | apply pw_below_drewN | apply below_drew1) | exact HB.out)))); (case aL => have := LMc2.out; omega); intro v164 w3 ho hb hg hat; rw [← Ny163.out] at ho; have n0_ := Aside0.mk (hb); have n1_ := Aside0.mk (ho); clear HB; have HB := n0_; have HO165 := n1_; clear n0_ n1_; clear ho hb hg hat))
    go_ret
    exact ⟨_, by first | rfl | (simp [errW_none, errW_some] <;> rfl) | (simp [*, errW_none, errW_some] <;> rfl), by (with_reducible repeat (first | apply Kd.R_alloc | apply Kd.R_drewN | apply Kd.R_drew)); exact HO165.out, by repeat (first | (with_reducible first | exact HB.out | apply below_alloc | apply pw_below_drewN | apply below_drew1) | exact HB.out)⟩
  · rw [if_neg c2] at H
    exact absurd H (by simp)

end Go.Proofs.Ytoijfhcmjolecaa.PAll
