/- SumKeeps walked through: it answers true, and leaves alone all memory that was there. Conditions: the two lists hold bytes and are read from their cells. -/
import Derived.Test.YtoijfhcmjolecaaPAllx4
import Derived.Test.YtoijfhcmjolecaaSumE
namespace Go.Proofs.Ytoijfhcmjolecaa.Keeps
set_option linter.unusedVariables false
set_option linter.unusedSimpArgs false
open Go.RowKit Go.Proofs.Ytoijfhcmjolecaa.PAll Go.Proofs.YtoijfhcmjolecaaW.PrintWords Go.Proofs.YtoijfhcmjolecaaW.PrintLast Go.Proofs.YtoijfhcmjolecaaW.PrintMore Go.Proofs.Ytoijfhcmjolecaa.SumT Go.Proofs.Ytoijfhcmjolecaa.SumE
theorem own_any {l : List Int} (hl : l.length ≤ 140737488351235) : mosaiclaw01_own.f l = some l := by
  unfold mosaiclaw01_own.f; rw [if_pos (by simp; omega), List.nil_append]
theorem part_now {l : List Int} (hb : Bytes l) (hl : l.length ≤ 140737488355328) : ∃ k, sum_Part.f k l = some (osum (psum l)) := Ev.rounds (part_any hb hl)
theorem of_now {l : List Int} (hb : Bytes l) (hl : l.length ≤ 140737488355328) : ∃ k, sum_Of.f k l = some (65535 - osum (psum l)) := Ev.rounds (of_any hb hl)
theorem known_now : ∃ k, mosaiclaw01_known.f k = some true := Ev.rounds known_any
/-- A row's beginning, by its address. -/
theorem pre_V {w : World} {base base' ga n ca : Nat} {ok : Nat → Prop} {xs t : List Int} (h : Kd.R (Kd.int .u8) 5 w base ok (.slice (some ⟨ga, 0, none⟩) n ca) (xs ++ t)) :
    Kd.V (Kd.int .u8) 5 w base' ok (.slice (some ⟨ga, 0, none⟩) xs.length ca) xs := by
  obtain ⟨hn, hc, hf⟩ := Kd.V_at (base := base) (Kd.R_V (base' := base) h)
  have hf2 := Kd.F_take (m := xs.length) hf (by simp)
  rw [List.take_left] at hf2
  exact Kd.V_mk (by simp at hn; omega) hf2
theorem part_call {w : World} {A : Option Addr} {n c k : Nat} {r : Int} {ok : Nat → Prop} {xs : List Int} (hV : Kd.V (Kd.int .u8) 5 w w.heap.size ok (.slice A xs.length c) xs) (hn : xs.length = n) (h : sum_Part.f k xs = some r) :
    Calls Try.prog 11 #[.slice A n c] w fun e w' => e = .returned (.int .u16 r) ∧ Below w.heap.size w w' := by subst hn; exact sum_Part.calls k ok _ _ xs r _ hV h
theorem of_call {w : World} {A : Option Addr} {n c k : Nat} {r : Int} {ok : Nat → Prop} {xs : List Int} (hV : Kd.V (Kd.int .u8) 5 w 0 ok (.slice A xs.length c) xs) (hn : xs.length = n) (h : sum_Of.f k xs = some r) :
    Calls Try.prog 16 #[.slice A n c] w fun e w' => e = .returned (.int .u16 r) ∧ Below w.heap.size w w' := by subst hn; exact sum_Of.calls k _ _ xs r _ (Kd.V_reads' hV).2.2 (Kd.V_reads' hV).2.1 h
theorem own_call {w : World} {A : Option Addr} {n c : Nat} {ok : Nat → Prop} {xs : List Int} (hV : Kd.V (Kd.int .u8) 5 w 0 ok (.slice A xs.length c) xs) (hn : xs.length = n) (h : mosaiclaw01_own.f xs = some xs) :
    Calls Try.prog 17 #[.slice A n c] w fun e w' => ∃ v0_ : Value, e = .returned (v0_) ∧ Kd.R (Kd.int .u8) 5 w' w.heap.size (fun _ => True) v0_ xs ∧ Below w.heap.size w w' := by subst hn; exact mosaiclaw01_own.calls _ _ xs xs _ (Kd.V_reads' hV).2.2 (Kd.V_reads' hV).2.1 h
/-- A goal laid aside. -/
def Hold (p : Prop) : Prop := p
theorem Hold.mk {p : Prop} (h : Hold p) : p := h
theorem Hold.out {p : Prop} (h : p) : Hold p := h
set_option maxHeartbeats 8000000 in
set_option maxRecDepth 100000 in
theorem keeps_calls (A0 A1 : Option Addr) (c0 c1 : Nat) (l0 l1 : List Int) (w : World) (hb0 : Bytes l0) (hb1 : Bytes l1)
    (hr0 : Kd.C (Kd.int .u8) w A0 l0.length l0) (hc0 : l0.length ≤ c0) (hr1 : Kd.C (Kd.int .u8) w A1 l1.length l1) (hc1 : l1.length ≤ c1)
    (hl : l0.length ≤ 140737488351232) (hown : mosaiclaw01_own.f l0 = some l0) :
    Calls Try.prog 7 #[.slice A0 l0.length c0, .slice A1 l1.length c1] w fun e w' => e = .returned (.bool true) ∧ Below w.heap.size w w' := by
  have HR0 := Aside0.mk hr0
  have HC0 := Aside0.mk hc0
  have HR1 := Aside0.mk hr1
  have HC1 := Aside0.mk hc1
  clear hr0 hc0 hr1 hc1
  have HB := Aside0.mk (Below.refl w.heap.size w)
  obtain ⟨kp, hp⟩ := part_now hb0 (by omega)
  obtain ⟨ko, ho⟩ := of_now hb0 (by omega)
  generalize hpv : osum (psum l0) = p at hp ho
  go_enter Try.func7, Try.ntmps7
  go_wp2_with (first
    | ((with_reducible refine gate_callee (f := 17) rfl ?_); refine goesL_ (some 14) rfl rfl Try.func17 (by kernel_rfl) rfl #[.slice A0 l0.length c0] rfl (by (try simp only [List.map_toArray, List.map_cons, List.map_nil]); first | done | rfl) ?_; (with_reducible refine (mosaiclaw01_own.calls _ _ l0 l0 _ ?side1 ?side2 hown).mono ?_); (case side1 => exact HR0.out); (case side2 => exact HC0.out); rintro e w22 ⟨v189, rfl, ho0, hb⟩; refine ⟨_, rfl, ?_⟩; have n0_ := Aside0.mk (Kd.R_lower ho0 (below_size (by repeat (first | (with_reducible first | exact HB.out | apply below_alloc | apply pw_below_drewN | apply below_drew1) | exact HB.out)))); have n1_ := Aside0.mk (below_step (by repeat (first | (with_reducible first | exact HB.out | apply below_alloc | apply pw_below_drewN | apply below_drew1) | exact HB.out)) hb); clear HB; have HO := n0_; have HB := n1_; clear n0_ n1_ hb ho0)
    | ((with_reducible refine gate_dst (N := 15) rfl ?_); refine Kd.R_lit (Kd.int .u8) _ 5 ?hg (N := 15) ?hd (xs := ([171, 172] : List Int)) (inner := [.int .u8 171, .int .u8 172]) (ok := fun _ => True) (okp := fun _ => True) ?hr ?hp (fun _ hk => hk) trivial (Below.refl _ _) (Nat.le_refl _) (by simp) ?_; (case hd => rfl); (case hg => rfl); (case hr => first | (go_simp; done) | (go_simp; rfl)); (case hp => exact (Reps.one (show Kd.M (Kd.int .u8) _ _ _ 171 [.int .u8 171] from rfl) (Reps.one (show Kd.M (Kd.int .u8) _ _ _ 172 [.int .u8 172] from rfl) (Reps.none _ _)))); intro v192 w23 ho24 hb hg_ hnew_; clear hg_ hnew_; have n0_ := Aside0.mk (Kd.R_elder' (by (with_reducible repeat (first | apply Kd.R_alloc | apply Kd.R_drewN | apply Kd.R_drew)); exact HO.out) (Kd.R_base ho24) hb); have n1_ := Aside0.mk (Kd.R_lower (Kd.R_new' ho24 (Kd.R_lt (by (with_reducible repeat (first | apply Kd.R_alloc | apply Kd.R_drewN | apply Kd.R_drew)); exact HO.out))) (below_size (by repeat (first | (with_reducible first | exact HB.out | apply below_alloc | apply pw_below_drewN | apply below_drew1) | exact HB.out)))); have n2_ := Aside0.mk (below_step (by repeat (first | (with_reducible first | exact HB.out | apply below_alloc | apply pw_below_drewN | apply below_drew1) | exact HB.out)) hb); clear HO; clear HB; have HO := n0_; have HL := n1_; have HB := n2_; clear n0_ n1_ n2_; clear hb ho24; obtain ⟨Ao26, co26, eo26⟩ := Kd.R_slice HL.out; subst eo26)
    | ((with_reducible refine gate_builtin (b := .append) (xs := #[(.tmp 14), (.tmp 15)]) rfl ?_); refine Hold.mk ?_))
  refine Hold.out ?_
  at_builtin
  refine Kd.R_append_rows (Kd.int .u8) (w0 := w) w.heap.size rfl (.tmp 14) (.tmp 15) 22 5 (.int .u8 0) 1 rfl Try.underlying22 info5 rfl (by decide) (by omega) v189 l0 [171, 172] _ _ _ (fun k_ => some k_ ≠ (.slice Ao26 2 co26 : Value).ownBlock) (fun _ => False) rfl rfl ?aO ?aR (fun _ _ h => h) (fun _ h => h.elim) ?aF ?aB ?aS ?aL ?_
  (case aR => repeat (first | exact (Kd.R_reads' HL.out).2.2 | (with_reducible refine Kd.C_alloc ?_ _) | (with_reducible refine Kd.C_drewN ?_ _) | (with_reducible refine Kd.C_drew ?_)))
  (case aB => exact (by repeat (first | (with_reducible first | exact HB.out | apply below_alloc | apply pw_below_drewN | apply below_drew1) | exact HB.out)))
  (case aF => exact (fun k_ hk => Kd.fresh' (Kd.R_lt (by (with_reducible repeat (first | apply Kd.R_alloc | apply Kd.R_drewN | apply Kd.R_drew)); exact HL.out)) k_ hk))
  (case aO => exact (by (with_reducible repeat (first | apply Kd.R_alloc | apply Kd.R_drewN | apply Kd.R_drew)); exact Kd.R_mono HO.out (fun _ hk => hk.2)))
  (case aS => exact (below_size (by repeat (first | (with_reducible first | exact HB.out | apply below_alloc | apply pw_below_drewN | apply below_drew1) | exact HB.out))))
  (case aL => (try simp only [List.length_cons, List.length_nil]); omega)
  intro v195 w25 ho hb hg hat
  have n1_ := Aside0.mk (hb)
  have n2_ := Aside0.mk (Kd.R_mono (ok' := fun _ => True) ho (fun _ _ => trivial))
  clear HL
  clear HB
  clear HO
  have HB := n1_
  have HO := n2_
  clear n1_ n2_
  clear ho hb hg hat
  obtain ⟨ga, ca, ea, gb, gl, cl, HG⟩ := Kd.R_form HO.out (by simp)
  rw [show (l0 ++ ([171, 172] : List Int)).length = l0.length + 2 by simp] at ea
  subst ea
  have GB := Aside0.mk gb
  have GL := Aside0.mk gl
  have hcap := (Kd.R_reads' HO.out).2.1
  have f1 : decide ((0:Int) ≤ (l0.length : Int)) = true := by simp
  have f2 : decide ((l0.length : Int) ≤ (ca : Int)) = true := by (simp; omega)
  clear gb gl cl HG
  go_wp2_with (go_at_call 11; refine Hold.mk ?_)
  refine Hold.out ?_
  refine (sum_Part.calls kp (fun _ => True) _ _ l0 p _ (pre_V HO.out) hp).mono ?_
  rintro e w6 ⟨rfl, hb⟩
  have n0_ := Aside0.mk (Kd.R_below HO.out hb)
  have n1_ := Aside0.mk (below_step (by repeat (first | (with_reducible first | exact HB.out | apply below_alloc | apply pw_below_drewN | apply below_drew1) | exact HB.out)) hb)
  clear HO HB
  have HO := n0_
  have HB := n1_
  clear n0_ n1_ hb
  dsimp only
  go_wp2_with (go_at_call 16; refine Hold.mk ?_)
  refine Hold.out ?_
  refine (sum_Of.calls ko _ _ l0 (65535 - p) _ (Kd.V_reads' (pre_V (base' := 0) HO.out)).2.2 (Kd.V_reads' (pre_V (base' := 0) HO.out)).2.1 ho).mono ?_
  rintro e w7 ⟨rfl, hb⟩
  have n0_ := Aside0.mk (Kd.R_below HO.out hb)
  have n1_ := Aside0.mk (below_step (by repeat (first | (with_reducible first | exact HB.out | apply below_alloc | apply pw_below_drewN | apply below_drew1) | exact HB.out)) hb)
  clear HO HB
  have HO := n0_
  have HB := n1_
  clear n0_ n1_ hb
  dsimp only
  go_wp2
  go_loopg [9] l0.length (fun kq v9 w' => ∃ x : Int, v9 = .int .i64 x ∧ 0 ≤ x ∧ x + kq = l0.length ∧ Aside0 (Kd.R (Kd.int .u8) 5 w' w.heap.size (fun _ => True) (.slice (some ⟨ga, 0, none⟩) (l0.length + 2) ca) (l0 ++ [171, 172])) ∧ Aside0 (Below w.heap.size w w'))
  case atStart => exact ⟨0, rfl, by omega, by omega, HO, HB⟩
  case round =>
    clear HO HB
    obtain ⟨x, rfl, h0, hk, HO, HB⟩ := hrel
    by_cases c2 : x < (l0.length : Int)
    · have b2 : decide (x < (l0.length : Int)) = true := decide_eq_true c2
      obtain ⟨hxl, hfl⟩ := Kd.R_celln 0 HO.out x h0 (by omega)
      obtain ⟨ad0, ea0, hx0⟩ := Kd.at_int (Kd.C_below HR0.out HB.out) x h0 c2
      have hrd : rdOf (0 : Int) (l0 ++ [171, 172]) x = rd l0 x := by
        unfold rdOf rd
        rw [List.getD_eq_getElem?_getD, List.getD_eq_getElem?_getD, List.getElem?_append_left (by omega)]
      rw [hrd] at hxl
      have q0 := eq_true h0
      have q1 := eq_true c2
      have q2 : decide (x < ((l0.length + 2 : Nat) : Int)) = true := decide_eq_true (by omega)
      subst ea0
      go_wp2
      repeat (go_quiet (fail); try go_wp2)
      go_roundg (gk - 1)
      case measure => omega
      case rel => exact ⟨x + 1, rfl, by omega, by omega, ⟨Kd.R_drewN HO.out _⟩, ⟨pw_below_drewN HB.out _⟩⟩
    · have b2 : decide (x < (l0.length : Int)) = false := decide_eq_false c2
      go_wp2
      repeat (go_quiet (fail); try go_wp2)
      go_loopg [10] l0.length (fun kq v9 w' => ∃ (x : Int) (xs : List Int), v9 = .int .i64 x ∧ 0 ≤ x ∧ x + kq = l0.length ∧ xs.length = l0.length ∧ Bytes xs ∧ Aside0 (Kd.R (Kd.int .u8) 5 w' w.heap.size (fun _ => True) (.slice (some ⟨ga, 0, none⟩) (l0.length + 2) ca) (xs ++ [171, 172])) ∧ Aside0 (Below w.heap.size w w'))
      case atStart => exact ⟨0, l0, rfl, by omega, by omega, rfl, hb0, HO, HB⟩
      case round =>
        clear HO HB
        obtain ⟨y, xs, rfl, g0, hgk, hxs, hbx, HO, HB⟩ := hrel
        by_cases c3 : y < (l0.length : Int)
        · have b3 : decide (y < (l0.length : Int)) = true := decide_eq_true c3
          obtain ⟨hxl, hfl⟩ := Kd.R_celln 0 HO.out y g0 (by omega)
          have hrd : rdOf (0 : Int) (xs ++ [171, 172]) y = xs.getD y.toNat 0 := by
            unfold rdOf
            rw [List.getD_eq_getElem?_getD, List.getD_eq_getElem?_getD, List.getElem?_append_left (by omega)]
          rw [hrd] at hxl
          have hzb := hbx.get y.toNat
          generalize xs.getD y.toNat 0 = z at hxl hzb
          have HP1 := Kd.R_putg HO.out y ((z + 1) % 256)
          have GL2 := Aside0.mk (Kd.R_lt HO.out ga rfl)
          have hset : (xs ++ [171, 172]).set y.toNat ((z + 1) % 256) = xs.set y.toNat ((z + 1) % 256) ++ [171, 172] := by
            rw [List.set_append_left _ _ (by omega)]
          rw [hset] at HP1
          clear hset hrd
          have hbx1 := hbx.set y.toNat (a := (z + 1) % 256) (by omega)
          have hxs1 : (xs.set y.toNat ((z + 1) % 256)).length = l0.length := by rw [List.length_set, hxs]
          generalize xs.set y.toNat ((z + 1) % 256) = xs1 at HP1 hbx1 hxs1
          have HX1 := Aside0.mk hxs1
          have HX := Aside0.mk hxs
          clear hxs hxs1
          have q0 := eq_true g0
          have q1 := eq_true c3
          by_cases c4 : y < (l1.length : Int)
          · have b4 : decide (y < (l1.length : Int)) = true := decide_eq_true c4
            obtain ⟨ad0, ea0, hx0⟩ := Kd.at_int (Kd.C_below HR1.out HB.out) y g0 c4
            subst ea0
            go_wp2_with ((with_reducible refine gate_store (t := 5) (p := 53) rfl ?_); refine store_event (t := 5) (p := 53) (v := ?vo) (w1 := (wr.setCell ⟨ga, y.toNat, none⟩ (.int .u8 ((z + 1) % 256)))) ?hg ?ho ?hn ?hr ?_; (case ho => rfl); (case hg => rfl); (case hn => rfl); (case hr => first | (go_simp; done) | (go_simp; rfl)); intro w29 hw; refine Hold.mk ?_)
            refine Hold.out ?_
            have n0_ : Aside0 (Kd.R (Kd.int .u8) 5 w29 w.heap.size (fun _ => True) (.slice (some ⟨ga, 0, none⟩) (l0.length + 2) ca) (xs1 ++ [171, 172])) := ⟨by rw [hw]; exact HP1.1⟩
            have n1_ : Aside0 (Below w.heap.size w w29) := ⟨by rw [hw]; exact below_set (HB.out) GB.out⟩
            clear HO HB hw HP1 hx0 hxl hfl
            have HO := n0_
            have HB := n1_
            clear n0_ n1_
            obtain ⟨ad1, ea1, hx1⟩ := Kd.at_int (Kd.C_below HR1.out HB.out) y g0 c4
            have hz1 : (0 : Int) ≤ rd l1 y ∧ rd l1 y ≤ 255 := hb1.get y.toNat
            generalize rd l1 y = z1 at hx1 hz1
            have HP1 := Kd.R_putg HO.out y z1
            have hxs1 := HX1.out
            have hset : (xs1 ++ [171, 172]).set y.toNat z1 = xs1.set y.toNat z1 ++ [171, 172] := by
              rw [List.set_append_left _ _ (by omega)]
            rw [hset] at HP1
            clear hset
            have hbx2 := hbx1.set y.toNat (a := z1) (by omega)
            have hxs2 : (xs1.set y.toNat z1).length = l0.length := by rw [List.length_set, hxs1]
            generalize xs1.set y.toNat z1 = xs2 at HP1 hbx2 hxs2
            have HX2 := Aside0.mk hxs2
            clear hxs1 hxs2
            obtain ⟨hxm, hfm⟩ := Kd.R_celln 0 HO.out y g0 (by omega)
            generalize rdOf (0 : Int) (xs1 ++ [171, 172]) y = zm at hxm
            obtain rfl := Option.some.inj ea1
            go_wp2_with ((with_reducible refine gate_store (t := 5) (p := 64) rfl ?_); refine store_event (t := 5) (p := 64) (v := ?vo) (w1 := (w29.setCell ⟨ga, y.toNat, none⟩ (.int .u8 z1))) ?hg ?ho ?hn ?hr ?_; (case ho => rfl); (case hg => rfl); (case hn => rfl); (case hr => first | (go_simp; done) | (go_simp; rfl)); intro w30 hw; refine Hold.mk ?_)
            go_roundg (gk - 1)
            case measure => omega
            case rel => exact ⟨y + 1, xs2, rfl, by omega, by omega, HX2.out, hbx2, ⟨HP1.1⟩, ⟨below_set (HB.out) GB.out⟩⟩
          · have b4 : decide (y < (l1.length : Int)) = false := decide_eq_false c4
            go_wp2
            go_roundg (gk - 1)
            case measure => omega
            case rel => exact ⟨y + 1, xs1, rfl, by omega, by omega, HX1.out, hbx1, ⟨HP1.1⟩, ⟨below_set (HB.out) GB.out⟩⟩
        · have b3 : decide (y < (l0.length : Int)) = false := decide_eq_false c3
          go_wp2_with (go_at_call 11; refine Hold.mk ?_)
          obtain ⟨kq, hq⟩ := part_now hbx (by omega)
          obtain ⟨kr, hr⟩ := of_now hbx (by omega)
          obtain ⟨kn, hkn⟩ := known_now
          generalize hqv : osum (psum xs) = q at hq hr
          refine Hold.out ?_
          refine (part_call (pre_V HO.out) hxs hq).mono ?_
          rintro e w20 ⟨rfl, hb⟩
          have n0_ := Aside0.mk (Kd.R_below HO.out hb)
          have n1_ := Aside0.mk (below_step (by repeat (first | (with_reducible first | exact HB.out | apply below_alloc | apply pw_below_drewN | apply below_drew1) | exact HB.out)) hb)
          clear HO HB
          have HO := n0_
          have HB := n1_
          clear n0_ n1_ hb
          dsimp only
          go_wp2_with (go_at_call 16; refine Hold.mk ?_)
          refine Hold.out ?_
          refine (of_call (pre_V HO.out) hxs hr).mono ?_
          rintro e w21 ⟨rfl, hb⟩
          have n0_ := Aside0.mk (Kd.R_below HO.out hb)
          have n1_ := Aside0.mk (below_step (by repeat (first | (with_reducible first | exact HB.out | apply below_alloc | apply pw_below_drewN | apply below_drew1) | exact HB.out)) hb)
          clear HO HB
          have HO := n0_
          have HB := n1_
          clear n0_ n1_ hb
          dsimp only
          go_wp2_with (go_at_call 10; refine Hold.mk ?_)
          refine Hold.out ?_
          refine (mosaiclaw01_known.calls kn true _ hkn).mono ?_
          rintro e w22 ⟨rfl, hb⟩
          have n0_ := Aside0.mk (Kd.R_below HO.out hb)
          have n1_ := Aside0.mk (below_step (by repeat (first | (with_reducible first | exact HB.out | apply below_alloc | apply pw_below_drewN | apply below_drew1) | exact HB.out)) hb)
          clear HO HB
          have HO := n0_
          have HB := n1_
          clear n0_ n1_ hb
          dsimp only
          go_wp2_with (go_at_call 17; refine Hold.mk ?_)
          refine Hold.out ?_
          refine (own_call (pre_V HO.out) hxs (own_any (by omega))).mono ?_
          rintro e w23 ⟨v0, rfl, hO2, hb⟩
          obtain ⟨A2, c2', e2⟩ := Kd.R_slice hO2
          subst e2
          have n0_ := Aside0.mk (Kd.R_below HO.out hb)
          have n1_ := Aside0.mk (below_step (by repeat (first | (with_reducible first | exact HB.out | apply below_alloc | apply pw_below_drewN | apply below_drew1) | exact HB.out)) hb)
          clear HO HB
          have HO := n0_
          have HB := n1_
          clear n0_ n1_ hb
          dsimp only
          go_wp2_with (go_at_call 11; refine Hold.mk ?_)
          refine Hold.out ?_
          refine (part_call (Kd.R_V hO2) hxs hq).mono ?_
          rintro e w24 ⟨rfl, hb⟩
          have n0_ := Aside0.mk (Kd.R_below HO.out hb)
          have n1_ := Aside0.mk (below_step (by repeat (first | (with_reducible first | exact HB.out | apply below_alloc | apply pw_below_drewN | apply below_drew1) | exact HB.out)) hb)
          clear HO HB
          have HO := n0_
          have HB := n1_
          clear n0_ n1_ hb
          dsimp only
          have bq := osum_le (psum xs) (psw_nonneg xs hbx).1
          have bp := osum_le (psum l0) (psw_nonneg l0 hb0).1
          rw [hqv] at bq
          rw [hpv] at bp
          have eq : IntKind.u16.wrap (65535 - q) = 65535 - q := wrap_u16 _ (by omega) (by omega)
          go_wp2_with (go_at_call 11; refine Hold.mk ?_)
          refine Hold.out ?_
          refine (sum_Part.calls kp (fun k_ => k_ < w.heap.size) _ _ l0 p _ (Kd.V_mk HC0.out (Kd.F_below (Kd.C_F (Kd.heap_int .u8) HR0.out) (by repeat (first | (with_reducible first | exact HB.out | apply below_alloc | apply pw_below_drewN | apply below_drew1) | exact HB.out)))) hp).mono ?_
          rintro e w25 ⟨rfl, hb⟩
          have n0_ := Aside0.mk (Kd.R_below HO.out hb)
          have n1_ := Aside0.mk (below_step (by repeat (first | (with_reducible first | exact HB.out | apply below_alloc | apply pw_below_drewN | apply below_drew1) | exact HB.out)) hb)
          clear HO HB
          have HO := n0_
          have HB := n1_
          clear n0_ n1_ hb
          dsimp only
          obtain ⟨hx1, hf1⟩ := Kd.R_celln 0 HO.out (l0.length : Int) (by omega) (by omega)
          obtain ⟨hx2, hf2⟩ := Kd.R_celln 0 HO.out ((l0.length : Int) + 1) (by omega) (by omega)
          have hr1 : rdOf (0 : Int) (xs ++ [171, 172]) (l0.length : Int) = 171 := by
            unfold rdOf
            rw [List.getD_eq_getElem?_getD, List.getElem?_append_right (by omega)]
            simp [hxs]
          have hr2 : rdOf (0 : Int) (xs ++ [171, 172]) ((l0.length : Int) + 1) = 172 := by
            unfold rdOf
            rw [List.getD_eq_getElem?_getD, List.getElem?_append_right (by omega)]
            rw [show ((l0.length : Int) + 1).toNat - xs.length = 1 by omega]
            rfl
          rw [hr1] at hx1
          rw [hr2] at hx2
          clear hr1 hr2
          rw [Int.toNat_natCast] at hx1 hf1
          rw [show ((l0.length : Int) + 1).toNat = l0.length + 1 by omega] at hx2 hf2
          go_wp2
          go_ret
          exact ⟨rfl, by repeat (first | (with_reducible first | exact HB.out | apply below_alloc | apply pw_below_drewN | apply below_drew1) | exact HB.out)⟩
theorem keeps_walk (a0 : Option Addr) (len0 cap0 : Nat) (z0 : List Int) (a1 : Option Addr) (len1 cap1 : Nat) (z1 : List Int) (w : World) (w0 : (a0 = none ∧ len0 = 0 ∧ cap0 = 0 ∧ z0 = []) ∨ ∃ x, a0 = some x ∧ len0 ≤ cap0 ∧ cap0 ≤ maxLen ∧ z0.length = cap0 ∧ (∀ i, i < z0.length → w.cell? (x.add i) = some (.int .u8 (z0.getD i 0))) ∧ ∀ n ∈ z0, (Lit.int .u8 n).wf = true) (y0 : len0 * 1 ≤ 140737488351232) (w1 : (a1 = none ∧ len1 = 0 ∧ cap1 = 0 ∧ z1 = []) ∨ ∃ x, a1 = some x ∧ len1 ≤ cap1 ∧ cap1 ≤ maxLen ∧ z1.length = cap1 ∧ (∀ i, i < z1.length → w.cell? (x.add i) = some (.int .u8 (z1.getD i 0))) ∧ ∀ n ∈ z1, (Lit.int .u8 n).wf = true) (y1 : len1 * 1 ≤ 140737488351232) :
    Calls Try.prog 7 #[.slice a0 len0 cap0, .slice a1 len1 cap1] w fun e w' => e = .returned (.bool true) ∧ Below w.heap.size w w' := by
  obtain ⟨l0, rfl, hr0, hm0, hw0, hc0⟩ := ReadsInt.ofRowC w0
  obtain ⟨l1, rfl, hr1, hm1, hw1, hc1⟩ := ReadsInt.ofRowC w1
  exact keeps_calls a0 a1 cap0 cap1 l0 l1 w (bytes_of hw0) (bytes_of hw1) (Kd.C_of_reads (d := (0 : Int)) (h1 := fun _ => rfl) hr0) hc0 (Kd.C_of_reads (d := (0 : Int)) (h1 := fun _ => rfl) hr1) hc1 (by omega) (own_any (by omega))
end Go.Proofs.Ytoijfhcmjolecaa.Keeps
