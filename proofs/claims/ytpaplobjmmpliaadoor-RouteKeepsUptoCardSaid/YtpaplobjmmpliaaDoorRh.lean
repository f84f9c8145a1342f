/- Contracts of the reference's one and ahead. Conditions: an address has sixteen bytes. -/
import Derived.Test.YtpaplobjmmpliaaDoorRg
namespace Go.Proofs.YtpaplobjmmpliaaDoor.Ad
set_option linter.unusedVariables false
set_option linter.unusedSimpArgs false
open Go.RowKit Go.Maps W
theorem maskE_zero {a : Addr} {n : Int} : a.maskE n = 0 ↔ a.nb ≠ 0 ∧ 0 ≤ n ∧ n ≤ a.nb := by
  unfold Addr.maskE
  constructor
  · intro h
    split at h
    · cases h
    split at h
    · cases h
    split at h
    · cases h
    · omega
  · rintro ⟨h1, h2, h3⟩
    rw [if_neg h1, if_neg (by omega), if_neg (by omega)]
theorem one_iff {r : Rt} : r.one = true ↔ r.net.valid = true ∧ 0 ≤ r.link ∧ r.link < 16 ∧ 0 ≤ r.bits ∧ r.bits ≤ r.net.width ∧ r.net.mask r.bits = r.net := by
  unfold Rt.one
  rw [decide_eq_true_iff, maskE_zero]
  constructor
  · rintro ⟨⟨h1, h2, h3⟩, h4, h5, h6⟩
    have hv : r.net.valid = true := by
      unfold Addr.valid
      refine decide_eq_true ?_
      have : 0 ≤ r.net.nb := by unfold Addr.nb; split; split <;> omega; split <;> omega
      omega
    exact ⟨hv, h5, h6, h2, by rw [← width_nb hv]; exact h3, h4⟩
  · rintro ⟨h1, h2, h3, h4, h5, h6⟩
    exact ⟨⟨nb_valid h1, h4, by rw [width_nb h1]; exact h5⟩, h6, h2, h3⟩
set_option maxRecDepth 100000 in
set_option maxHeartbeats 4000000 in
theorem rone_calls (r : Rt) (ho : r.ok) (w : World) : Calls Tryd.prog 26 #[.agg r.cells] w fun e w' => e = .returned (.bool r.one) ∧ Below w.heap.size w w' := by
  have HV : Hid (∀ w, Calls Tryd.prog 29 #[.agg r.net.vals.toArray] w fun e w' => e = .returned (.bool r.net.valid) ∧ Below w.heap.size w w') := Lib.hid fun w => rvalid_calls r.net ho w
  have HW : Hid (∀ w, Calls Tryd.prog 47 #[.agg r.net.vals.toArray] w fun e w' => e = .returned (.int .i64 r.net.width) ∧ Below w.heap.size w w') := Lib.hid fun w => rbits_calls r.net ho w
  have HM : Hid (∀ w, Calls Tryd.prog 48 #[.agg r.net.vals.toArray, .int .i64 r.bits] w fun e w' => e = .returned (.tuple #[.agg (r.net.mask r.bits).cells, .int .i64 (r.net.maskE r.bits)]) ∧ Below w.heap.size w w') := Lib.hid fun w => rmask_calls r.net ho r.bits w
  obtain ⟨m, hm⟩ : ∃ m, r.net.mask r.bits = m := ⟨_, rfl⟩
  have hmo : m.ok := by rw [← hm]; exact mask_ok ho r.bits
  obtain ⟨er, her⟩ : ∃ er, r.net.maskE r.bits = er := ⟨_, rfl⟩
  obtain ⟨wd, hwd⟩ : ∃ wd, r.net.width = wd := ⟨_, rfl⟩
  have z0 := zero_ok
  have HMM := Lib.hid hm
  have HWD := Lib.hid hwd
  rw [hm, her] at HM
  rw [hwd] at HW
  clear hm her hwd
  have h1 := True.intro
  have h2 := True.intro
  have h3 := True.intro
  have h4 := True.intro
  have h5 := True.intro
  cases hv : r.net.valid
  · have HF : Hid (r.one = false) := Lib.hid (by cases hq : r.one with | false => rfl | true => have := (one_iff.1 hq).1; rw [hv] at this; cases this)
    rw [hv] at HV
    clear h1 h2 h3 h4 h5 hv
    go_enter Tryd.func26, Tryd.ntmps26
    go_upto_region 1 with fail
    refine wp_named fun W hW => ?_
    obtain ⟨bk, BW, sW⟩ := box1 hW
    clear hW
    have c17 : ∀ z : Later W, z.val.cell? ⟨w.heap.size, 17, none⟩ = some (.int .i64 r.bits) := Later.cell (bits_at bk.out ho)
    have c18 : ∀ z : Later W, z.val.cell? ⟨w.heap.size, 18, none⟩ = some (.int .i64 r.link) := Later.cell (link_at bk.out ho)
    refine region_later (by kernel_rfl) (by kernel_rfl) ?_
    repeat (first | go_big_quiet_skip | (go_big_quiet_want; first | (refine quiet_at 35 _ rfl w.heap.size 0 r.net.vals _ rfl (net_at bk.out) Tryd.underlying35 rfl (by as_aux_lemma => exact asz ho) ?_; simp only [Act.put, List.setIfInBounds_toArray, List.set_cons_zero, List.set_cons_succ]; go_big_quiet_on) | (go_big_quiet_op; first | go_big_quiet_on | go_big_quiet_call (first | (go_at_call 29; exact calls_later (HV.out _)) | (go_at_call 47; exact calls_later (HW.out _))))))
    refine wpQuiet_nil ?_
    intro z hz
    have BZ := keep BW hz
    clear hz
    go_wp2
    go_ret
    exact ⟨by rw [HF.out]; rfl, BZ.out⟩
  · have HVV := Lib.hid hv
    rw [hv] at HV
    by_cases g2 : r.link < 0
    · have f2 : decide (r.link < 0) = true := decide_eq_true g2
      have HF : Hid (r.one = false) := Lib.hid (by cases hq : r.one with | false => rfl | true => obtain ⟨q1, q2, q3, q4, q5, q6⟩ := one_iff.1 hq; omega)
      clear h1 h2 h3 h4 h5 hv
      go_enter Tryd.func26, Tryd.ntmps26
      go_upto_region 1 with fail
      refine wp_named fun W hW => ?_
      obtain ⟨bk, BW, sW⟩ := box1 hW
      clear hW
      have c17 : ∀ z : Later W, z.val.cell? ⟨w.heap.size, 17, none⟩ = some (.int .i64 r.bits) := Later.cell (bits_at bk.out ho)
      have c18 : ∀ z : Later W, z.val.cell? ⟨w.heap.size, 18, none⟩ = some (.int .i64 r.link) := Later.cell (link_at bk.out ho)
      refine region_later (by kernel_rfl) (by kernel_rfl) ?_
      repeat (first | go_big_quiet_skip | (go_big_quiet_want; first | (refine quiet_at 35 _ rfl w.heap.size 0 r.net.vals _ rfl (net_at bk.out) Tryd.underlying35 rfl (by as_aux_lemma => exact asz ho) ?_; simp only [Act.put, List.setIfInBounds_toArray, List.set_cons_zero, List.set_cons_succ]; go_big_quiet_on) | (go_big_quiet_op; first | go_big_quiet_on | go_big_quiet_call (first | (go_at_call 29; exact calls_later (HV.out _)) | (go_at_call 47; exact calls_later (HW.out _))))))
      refine wpQuiet_nil ?_
      intro z hz
      have BZ := keep BW hz
      clear hz
      go_wp2
      go_ret
      exact ⟨by rw [HF.out]; rfl, BZ.out⟩
    · have f2 : decide (r.link < 0) = false := decide_eq_false g2
      by_cases g3 : 16 ≤ r.link
      · have f3 : decide (16 ≤ r.link) = true := decide_eq_true g3
        have HF : Hid (r.one = false) := Lib.hid (by cases hq : r.one with | false => rfl | true => obtain ⟨q1, q2, q3, q4, q5, q6⟩ := one_iff.1 hq; omega)
        clear h1 h2 h3 h4 h5 hv
        go_enter Tryd.func26, Tryd.ntmps26
        go_upto_region 1 with fail
        refine wp_named fun W hW => ?_
        obtain ⟨bk, BW, sW⟩ := box1 hW
        clear hW
        have c17 : ∀ z : Later W, z.val.cell? ⟨w.heap.size, 17, none⟩ = some (.int .i64 r.bits) := Later.cell (bits_at bk.out ho)
        have c18 : ∀ z : Later W, z.val.cell? ⟨w.heap.size, 18, none⟩ = some (.int .i64 r.link) := Later.cell (link_at bk.out ho)
        refine region_later (by kernel_rfl) (by kernel_rfl) ?_
        repeat (first | go_big_quiet_skip | (go_big_quiet_want; first | (refine quiet_at 35 _ rfl w.heap.size 0 r.net.vals _ rfl (net_at bk.out) Tryd.underlying35 rfl (by as_aux_lemma => exact asz ho) ?_; simp only [Act.put, List.setIfInBounds_toArray, List.set_cons_zero, List.set_cons_succ]; go_big_quiet_on) | (go_big_quiet_op; first | go_big_quiet_on | go_big_quiet_call (first | (go_at_call 29; exact calls_later (HV.out _)) | (go_at_call 47; exact calls_later (HW.out _))))))
        refine wpQuiet_nil ?_
        intro z hz
        have BZ := keep BW hz
        clear hz
        go_wp2
        go_ret
        exact ⟨by rw [HF.out]; rfl, BZ.out⟩
      · have f3 : decide (16 ≤ r.link) = false := decide_eq_false g3
        by_cases g4 : r.bits < 0
        · have f4 : decide (r.bits < 0) = true := decide_eq_true g4
          have HF : Hid (r.one = false) := Lib.hid (by cases hq : r.one with | false => rfl | true => obtain ⟨q1, q2, q3, q4, q5, q6⟩ := one_iff.1 hq; omega)
          clear h1 h2 h3 h4 h5 hv
          go_enter Tryd.func26, Tryd.ntmps26
          go_upto_region 1 with fail
          refine wp_named fun W hW => ?_
          obtain ⟨bk, BW, sW⟩ := box1 hW
          clear hW
          have c17 : ∀ z : Later W, z.val.cell? ⟨w.heap.size, 17, none⟩ = some (.int .i64 r.bits) := Later.cell (bits_at bk.out ho)
          have c18 : ∀ z : Later W, z.val.cell? ⟨w.heap.size, 18, none⟩ = some (.int .i64 r.link) := Later.cell (link_at bk.out ho)
          refine region_later (by kernel_rfl) (by kernel_rfl) ?_
          repeat (first | go_big_quiet_skip | (go_big_quiet_want; first | (refine quiet_at 35 _ rfl w.heap.size 0 r.net.vals _ rfl (net_at bk.out) Tryd.underlying35 rfl (by as_aux_lemma => exact asz ho) ?_; simp only [Act.put, List.setIfInBounds_toArray, List.set_cons_zero, List.set_cons_succ]; go_big_quiet_on) | (go_big_quiet_op; first | go_big_quiet_on | go_big_quiet_call (first | (go_at_call 29; exact calls_later (HV.out _)) | (go_at_call 47; exact calls_later (HW.out _))))))
          refine wpQuiet_nil ?_
          intro z hz
          have BZ := keep BW hz
          clear hz
          go_wp2
          go_ret
          exact ⟨by rw [HF.out]; rfl, BZ.out⟩
        · have f4 : decide (r.bits < 0) = false := decide_eq_false g4
          by_cases g5 : wd < r.bits
          · have f5 : decide (wd < r.bits) = true := decide_eq_true g5
            have HF : Hid (r.one = false) := Lib.hid (by cases hq : r.one with | false => rfl | true => obtain ⟨q1, q2, q3, q4, q5, q6⟩ := one_iff.1 hq; have := HWD.out; omega)
            clear h1 h2 h3 h4 h5 hv
            go_enter Tryd.func26, Tryd.ntmps26
            go_upto_region 1 with fail
            refine wp_named fun W hW => ?_
            obtain ⟨bk, BW, sW⟩ := box1 hW
            clear hW
            have c17 : ∀ z : Later W, z.val.cell? ⟨w.heap.size, 17, none⟩ = some (.int .i64 r.bits) := Later.cell (bits_at bk.out ho)
            have c18 : ∀ z : Later W, z.val.cell? ⟨w.heap.size, 18, none⟩ = some (.int .i64 r.link) := Later.cell (link_at bk.out ho)
            refine region_later (by kernel_rfl) (by kernel_rfl) ?_
            repeat (first | go_big_quiet_skip | (go_big_quiet_want; first | (refine quiet_at 35 _ rfl w.heap.size 0 r.net.vals _ rfl (net_at bk.out) Tryd.underlying35 rfl (by as_aux_lemma => exact asz ho) ?_; simp only [Act.put, List.setIfInBounds_toArray, List.set_cons_zero, List.set_cons_succ]; go_big_quiet_on) | (go_big_quiet_op; first | go_big_quiet_on | go_big_quiet_call (first | (go_at_call 29; exact calls_later (HV.out _)) | (go_at_call 47; exact calls_later (HW.out _))))))
            refine wpQuiet_nil ?_
            intro z hz
            have BZ := keep BW hz
            clear hz
            go_wp2
            go_ret
            exact ⟨by rw [HF.out]; rfl, BZ.out⟩
          · have f5 : decide (wd < r.bits) = false := decide_eq_false g5
            have HF : Hid (r.one = decide (m = r.net)) := Lib.hid (by
              rw [Bool.eq_iff_iff, one_iff, decide_eq_true_iff, HMM.out, HWD.out]
              exact ⟨fun h => h.2.2.2.2.2, fun h => ⟨HVV.out, by omega, by omega, by omega, by omega, h⟩⟩)
            clear g2 g3 g4 g5
            clear h1 h2 h3 h4 h5 hv
            go_enter Tryd.func26, Tryd.ntmps26
            go_upto_region 1 with fail
            refine wp_named fun W hW => ?_
            obtain ⟨bk, BW, sW⟩ := box1 hW
            clear hW
            have c17 : ∀ z : Later W, z.val.cell? ⟨w.heap.size, 17, none⟩ = some (.int .i64 r.bits) := Later.cell (bits_at bk.out ho)
            have c18 : ∀ z : Later W, z.val.cell? ⟨w.heap.size, 18, none⟩ = some (.int .i64 r.link) := Later.cell (link_at bk.out ho)
            refine region_later (by kernel_rfl) (by kernel_rfl) ?_
            repeat (first | go_big_quiet_skip | (go_big_quiet_want; first | (refine quiet_at 35 _ rfl w.heap.size 0 r.net.vals _ rfl (net_at bk.out) Tryd.underlying35 rfl (by as_aux_lemma => exact asz ho) ?_; simp only [Act.put, List.setIfInBounds_toArray, List.set_cons_zero, List.set_cons_succ]; go_big_quiet_on) | (go_big_quiet_op; first | go_big_quiet_on | go_big_quiet_call (first | (go_at_call 29; exact calls_later (HV.out _)) | (go_at_call 47; exact calls_later (HW.out _))))))
            refine wpQuiet_nil ?_
            intro z hz
            have BZ := keep BW hz
            have bk := Lib.hid (bk.out.later hz bk.out.lt)
            clear hz c17 c18
            have c17 := bits_at bk.out ho
            have q1 : ∀ w, (binOp .eql 35 (.agg m.cells) (.agg r.net.vals.toArray)).run Tryd.prog w = .ok (.bool (decide (m = r.net))) w := fun w => eql_ad m r.net hmo ho w
            go_upto_region 4 with (first | (refine wpList_load_at rfl 35 _ rfl w.heap.size 0 r.net.vals _ rfl (net_at bk.out) Tryd.underlying35 rfl (by as_aux_lemma => exact asz ho) ?_) | (go_at_call 48; refine (HM.out _).mono ?_; rintro e W3 ⟨rfl, hB8⟩) | (refine wpList_store_blk rfl 35 _ _ rfl W3.heap.size 35 zeroAd.cells m.cells rfl rfl (Blk.new _ _ _) (by first | rfl | rw [csize hmo, csize zero_ok]) (szc hmo) (one_cells _) ?_; intro W4 P4))
            obtain ⟨B8, b6, s8, t8⟩ := call_store hB8 P4
            have BZ := keep BZ B8.out
            have bk := Lib.hid (bk.out.later B8.out bk.out.lt)
            clear c17 hB8 P4 B8 s8 t8
            go_wp2_with (first | (refine wpList_load_blk rfl 35 _ rfl W3.heap.size 35 _ _ rfl b6.out Tryd.underlying35 rfl (by as_aux_lemma => exact szc hmo) ?_) | (refine wpList_load_at rfl 35 _ rfl w.heap.size 0 r.net.vals _ rfl (net_at bk.out) Tryd.underlying35 rfl (by as_aux_lemma => exact asz ho) ?_))
            go_ret
            exact ⟨by rw [HF.out]; rfl, BZ.out⟩
set_option maxRecDepth 100000 in
set_option maxHeartbeats 4000000 in
theorem ahead_calls (x y : Rt) (hx : x.ok) (hy : y.ok) (w : World) : Calls Tryd.prog 32 #[.agg x.cells, .agg y.cells] w fun e w' => e = .returned (.bool (x.ahead y)) ∧ Below w.heap.size w w' := by
  have HL : Hid (∀ w, Calls Tryd.prog 51 #[.agg x.net.vals.toArray, .agg y.net.vals.toArray] w fun e w' => e = .returned (.bool (x.net.less y.net)) ∧ Below w.heap.size w w') := Lib.hid fun w => rless_calls x.net y.net hx hy w
  have q1 : ∀ w, (binOp .neq 35 (.agg x.net.vals.toArray) (.agg y.net.vals.toArray)).run Tryd.prog w = .ok (.bool (!decide (x.net = y.net))) w := fun w => neq_ad x.net y.net hx hy w
  by_cases e : x.net = y.net
  · rw [decide_eq_true e] at q1
    have HR : Hid (x.ahead y = decide (x.bits < y.bits)) := Lib.hid (if_pos e)
    clear e HL
    go_enter Tryd.func32, Tryd.ntmps32
    go_upto_region 1 with fail
    refine wp_named fun W hW => ?_
    obtain ⟨b1, b2, BW, sW⟩ := box2 hW
    clear hW
    have k1 := bits_at b1.out hx
    have k2 := bits_at b2.out hy
    go_wp2_with (first | (refine wpList_load_at rfl 35 _ rfl w.heap.size 0 x.net.vals _ rfl (net_at b1.out) Tryd.underlying35 rfl (by as_aux_lemma => exact asz hx) ?_) | (refine wpList_load_at rfl 35 _ rfl (w.heap.size + 1) 0 y.net.vals _ rfl (net_at b2.out) Tryd.underlying35 rfl (by as_aux_lemma => exact asz hy) ?_) | (go_at_call 51; refine (HL.out _).mono ?_; rintro e W9 ⟨rfl, hB9⟩))
    go_ret
    exact ⟨by rw [HR.out]; rfl, BW.out⟩
  · rw [decide_eq_false e] at q1
    have HR : Hid (x.ahead y = x.net.less y.net) := Lib.hid (if_neg e)
    clear e
    go_enter Tryd.func32, Tryd.ntmps32
    go_upto_region 1 with fail
    refine wp_named fun W hW => ?_
    obtain ⟨b1, b2, BW, sW⟩ := box2 hW
    clear hW
    go_wp2_with (first | (refine wpList_load_at rfl 35 _ rfl w.heap.size 0 x.net.vals _ rfl (net_at b1.out) Tryd.underlying35 rfl (by as_aux_lemma => exact asz hx) ?_) | (refine wpList_load_at rfl 35 _ rfl (w.heap.size + 1) 0 y.net.vals _ rfl (net_at b2.out) Tryd.underlying35 rfl (by as_aux_lemma => exact asz hy) ?_) | (go_at_call 51; refine (HL.out _).mono ?_; rintro e W9 ⟨rfl, hB9⟩))
    go_ret
    exact ⟨by rw [HR.out]; rfl, (keep BW hB9).out⟩
end Go.Proofs.YtpaplobjmmpliaaDoor.Ad
