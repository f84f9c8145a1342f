/- Contract of the reference's Find. Conditions: addresses have sixteen bytes, numbers lie within 64 bits, at most 32 routes. -/
import Derived.Test.YtpaplobjmmpliaaDoorRi
namespace Go.Proofs.YtpaplobjmmpliaaDoor.Ad
set_option linter.unusedVariables false
set_option linter.unusedSimpArgs false
open Go.RowKit Go.Maps W
set_option maxRecDepth 100000 in
set_option maxHeartbeats 4000000 in
theorem rfind_calls {l : List Rt} (hl : ∀ r ∈ l, r.wf) (h32 : l.length ≤ 32) (p : Option Go.Addr) (c : Nat) (w : World) (hp : At w p l) (a : Addr) (ha : a.ok) : Calls Tryd.prog 14 #[.slice p l.length c, .agg a.cells] w fun e w' =>
    e = .returned (.tuple #[.int .i64 (findV l a).1, .int .i64 (findV l a).2]) ∧ Below w.heap.size w w' := by
  have HS := Lib.hid hl
  have HP := Lib.hid hp
  obtain ⟨n, hn⟩ : ∃ n, l.length = n := ⟨_, rfl⟩
  have HN := Lib.hid hn
  have hb32 : n ≤ 32 := by omega
  have HV := Lib.hid (fun w => rvalid_calls a ha w)
  rw [hn]
  clear hp hl hn h32
  cases hv : a.valid
  · have HR : Hid (findV l a = (0, 1)) := Lib.hid (by unfold findV; rw [hv]; rfl)
    rw [hv] at HV
    rw [HR.out]
    clear hv
    go_enter Tryd.func14, Tryd.ntmps14
    go_upto_region 1 with fail
    refine wp_named fun W hW => ?_
    obtain ⟨bk, BW, sW⟩ := box1 hW
    clear hW
    go_wp2_with (first | (refine wpList_load_blk rfl 35 _ rfl w.heap.size 35 _ _ rfl bk.out Tryd.underlying35 rfl (by as_aux_lemma => exact szc ha) ?_) | (go_at_call 29; refine (HV.out _).mono ?_; rintro e W2 ⟨rfl, hB2⟩))
    go_ret2
    exact ⟨rfl, (keep BW hB2).out⟩
  · have HRV := Lib.hid hv
    rw [hv] at HV
    clear hv
    go_enter Tryd.func14, Tryd.ntmps14
    go_upto_region 1 with fail
    refine wp_named fun W hW => ?_
    obtain ⟨bk, BW, sW⟩ := box1 hW
    clear hW
    go_upto_region 3 with (first | (refine wpList_load_blk rfl 35 _ rfl w.heap.size 35 _ _ rfl bk.out Tryd.underlying35 rfl (by as_aux_lemma => exact szc ha) ?_) | (go_at_call 29; refine (HV.out _).mono ?_; rintro e W2 ⟨rfl, hB2⟩))
    have BW := keep BW hB2
    have bk := Lib.hid (bk.out.later hB2 bk.out.lt)
    have HP := Lib.hid (HP.out.later BW.out)
    clear hB2 HV sW
    go_wp2
    go_loopw [6, 7, 8] (fun u6 u7 u wr => ∃ k : Nat, u = .int .i64 k ∧ k ≤ n ∧ u7 = .int .i64 (findB (l.take k) a).1 ∧ u6 = .int .i64 (findB (l.take k) a).2 ∧ Hid (Below W2.heap.size W2 wr)) (fun _ _ u _ => n - (intOf u).toNat)
    case atStart => exact ⟨0, rfl, Nat.zero_le _, rfl, rfl, Lib.hid (Below.refl _ _)⟩
    case round =>
      obtain ⟨k, rfl, hk, rfl, rfl, HB⟩ := hrel
      obtain ⟨cl, cb, hst⟩ : ∃ cl cb, findB (l.take k) a = (cl, cb) := ⟨_, _, rfl⟩
      rw [hst]
      have HST := Lib.hid hst
      clear hst
      by_cases hlt : k < n
      · have e1 : decide ((k : Int) < (n : Int)) = true := decide_eq_true (by omega)
        have e1' : decide (k < n) = true := decide_eq_true hlt
        have HK : Hid (k < l.length) := Lib.hid (by have := HN.out; omega)
        obtain ⟨r, hr⟩ : ∃ r, l[k]? = some r := ⟨_, List.getElem?_eq_getElem HK.out⟩
        have HR := Lib.hid hr
        have hwf := Lib.hid (HS.out r (List.mem_of_getElem? hr))
        have hap := HP.out.later HB.out
        clear hr
        rcases hap with hap | ⟨g, o, rfl, hgl, hh⟩
        · have := HK.out; rw [hap] at this; exact absurd this (Nat.not_lt_zero _)
        have HH := Lib.hid hh
        have HGL := Lib.hid hgl
        have bk := Lib.hid (bk.out.later HB.out bk.out.lt)
        have HRN := Lib.hid (hh.net HR.out)
        have c17 : ∀ z : Later wr, z.val.cell? ⟨g, o + k * 19 + 17, none⟩ = some (.int .i64 r.bits) := Later.cell (hh.bits HR.out hwf.out.ok)
        clear hh hgl
        have HW : Hid (∀ w, Calls Tryd.prog 30 #[.agg a.cells, .agg r.net.vals.toArray, .int .i64 r.bits] w fun e w' => e = .returned (.bool (a.within r.net r.bits)) ∧ Below w.heap.size w w') := Lib.hid (fun w => rwithin_calls a r.net ha hwf.out.ok r.bits w)
        obtain ⟨i, hi⟩ : ∃ i, a.within r.net r.bits = i := ⟨_, rfl⟩
        rw [hi] at HW
        have HI := Lib.hid hi
        clear hi
        go_upto_region 8 with fail
        cases i
        · have HNX : Hid (findB (l.take (k + 1)) a = (cl, cb)) := Lib.hid (by rw [findB_take HR.out, HST.out]; unfold pick; rw [if_neg (by rw [HI.out]; simp)])
          refine region_later (by kernel_rfl) (by kernel_rfl) ?_
          repeat (first | go_big_quiet_skip | (go_big_quiet_want; first | (refine quiet_load 35 _ rfl w.heap.size 35 _ _ rfl bk.out Tryd.underlying35 rfl (szc ha) ?_; simp only [Act.put, List.setIfInBounds_toArray, List.set_cons_zero, List.set_cons_succ]; go_big_quiet_on) | (refine quiet_at 35 _ rfl g (o + k * 19) r.net.vals _ rfl HRN.out Tryd.underlying35 rfl (by as_aux_lemma => exact asz hwf.out.ok) ?_; simp only [Act.put, List.setIfInBounds_toArray, List.set_cons_zero, List.set_cons_succ]; go_big_quiet_on) | (go_big_quiet_op; first | go_big_quiet_on | go_big_quiet_call ((go_at_call 30; exact calls_later (HW.out _))))))
          refine wpQuiet_nil ?_
          intro z hz
          have HBz := Lib.hid (HB.out.trans (hz.mono HB.out.size))
          clear hz
          go_wp2
          exact ⟨⟨k + 1, by go_num, by omega, by rw [HNX.out], by rw [HNX.out], HBz⟩, by simp [intOf]; omega⟩
        · by_cases h1 : cb < r.bits
          · have f1 : decide (cb < r.bits) = true := decide_eq_true h1
            have HNX : Hid (findB (l.take (k + 1)) a = (r.link, r.bits)) := Lib.hid (by rw [findB_take HR.out, HST.out]; unfold pick; rw [if_pos ⟨h1, HI.out⟩])
            clear h1
            refine region_later (by kernel_rfl) (by kernel_rfl) ?_
            repeat (first | go_big_quiet_skip | (go_big_quiet_want; first | (refine quiet_load 35 _ rfl w.heap.size 35 _ _ rfl bk.out Tryd.underlying35 rfl (szc ha) ?_; simp only [Act.put, List.setIfInBounds_toArray, List.set_cons_zero, List.set_cons_succ]; go_big_quiet_on) | (refine quiet_at 35 _ rfl g (o + k * 19) r.net.vals _ rfl HRN.out Tryd.underlying35 rfl (by as_aux_lemma => exact asz hwf.out.ok) ?_; simp only [Act.put, List.setIfInBounds_toArray, List.set_cons_zero, List.set_cons_succ]; go_big_quiet_on) | (go_big_quiet_op; first | go_big_quiet_on | go_big_quiet_call ((go_at_call 30; exact calls_later (HW.out _))))))
            refine wpQuiet_nil ?_
            intro z hz
            have HBz := Lib.hid (HB.out.trans (hz.mono HB.out.size))
            have hhz := HH.out.later hz HGL.out
            clear hz c17
            have c17 := hhz.bits HR.out hwf.out.ok
            have c18 := hhz.link HR.out hwf.out.ok
            clear hhz
            go_wp2
            exact ⟨⟨k + 1, by go_num, by omega, by rw [HNX.out], by rw [HNX.out], HBz⟩, by simp [intOf]; omega⟩
          · have f1 : decide (cb < r.bits) = false := decide_eq_false h1
            have HNX : Hid (findB (l.take (k + 1)) a = (cl, cb)) := Lib.hid (by rw [findB_take HR.out, HST.out]; unfold pick; rw [if_neg (fun h => h1 h.1)])
            clear h1
            refine region_later (by kernel_rfl) (by kernel_rfl) ?_
            repeat (first | go_big_quiet_skip | (go_big_quiet_want; first | (refine quiet_load 35 _ rfl w.heap.size 35 _ _ rfl bk.out Tryd.underlying35 rfl (szc ha) ?_; simp only [Act.put, List.setIfInBounds_toArray, List.set_cons_zero, List.set_cons_succ]; go_big_quiet_on) | (refine quiet_at 35 _ rfl g (o + k * 19) r.net.vals _ rfl HRN.out Tryd.underlying35 rfl (by as_aux_lemma => exact asz hwf.out.ok) ?_; simp only [Act.put, List.setIfInBounds_toArray, List.set_cons_zero, List.set_cons_succ]; go_big_quiet_on) | (go_big_quiet_op; first | go_big_quiet_on | go_big_quiet_call ((go_at_call 30; exact calls_later (HW.out _))))))
            refine wpQuiet_nil ?_
            intro z hz
            have HBz := Lib.hid (HB.out.trans (hz.mono HB.out.size))
            clear hz
            go_wp2
            exact ⟨⟨k + 1, by go_num, by omega, by rw [HNX.out], by rw [HNX.out], HBz⟩, by simp [intOf]; omega⟩
      · have e1 : decide ((k : Int) < (n : Int)) = false := decide_eq_false (by omega)
        have e1' : decide (k < n) = false := decide_eq_false hlt
        have HF : Hid (findB l a = (cl, cb)) := Lib.hid (by
          have hkn : k = n := by omega
          rw [← HST.out, hkn, ← HN.out, List.take_length])
        clear hlt
        by_cases h2 : cb < 0
        · have f2 : decide (cb < 0) = true := decide_eq_true h2
          have HR : Hid (findV l a = (0, 210)) := Lib.hid (by unfold findV; rw [if_pos HRV.out, HF.out]; exact if_pos h2)
          clear h2
          go_wp2
          go_ret2
          exact ⟨by rw [HR.out]; rfl, (keep BW HB.out).out⟩
        · have f2 : decide (cb < 0) = false := decide_eq_false h2
          have HR : Hid (findV l a = (cl, 0)) := Lib.hid (by unfold findV; rw [if_pos HRV.out, HF.out]; exact if_neg h2)
          clear h2
          go_wp2
          go_ret2
          exact ⟨by rw [HR.out]; rfl, (keep BW HB.out).out⟩
end Go.Proofs.YtpaplobjmmpliaaDoor.Ad
