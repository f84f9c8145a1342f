/- Contract of a table's Find. Conditions: addresses have sixteen bytes, numbers lie within 64 bits. -/
import Derived.Test.YtpaplobjmmpliaaDoorRf
namespace Go.Proofs.YtpaplobjmmpliaaDoor.Ad
set_option linter.unusedVariables false
set_option linter.unusedSimpArgs false
open Go.RowKit Go.Maps W
set_option maxRecDepth 100000 in
set_option maxHeartbeats 4000000 in
theorem find_calls {s : List Rt} (hs : ∀ r ∈ s, r.wf) (h32 : s.length ≤ 32) (B : Nat) (t : Value) (w : World) (ht : Tab B w t s) (a : Addr) (ha : a.ok) : Calls Tryd.prog 13 #[t, .agg a.cells] w fun e w' =>
    e = .returned (.tuple #[.int .i64 (findV s a).1, .int .i64 (findV s a).2]) ∧ Below w.heap.size w w' := by
  obtain ⟨g0, p, c, rfl, hb, hat, _, _⟩ := ht.is
  have HS := Lib.hid hs
  have HP := Lib.hid hat
  have HT := Lib.hid hb
  have hz := zeroRt_ok
  obtain ⟨n, hn⟩ : ∃ n, s.length = n := ⟨_, rfl⟩
  have HN := Lib.hid hn
  have hb32 : n ≤ 32 := by omega
  rw [hn] at HT
  clear h32
  clear ht hat hs hb hn
  cases hv : a.valid
  · have HR : Hid (findV s a = (0, 1)) := Lib.hid (by unfold findV; rw [hv]; rfl)
    have HV := Lib.hid (fun w => valid_calls a ha w)
    rw [hv] at HV
    rw [HR.out]
    clear hv
    go_enter Tryd.func13, Tryd.ntmps13
    go_upto_region 1 with fail
    refine wp_named fun W hW => ?_
    obtain ⟨bk, BW, sW⟩ := box1 hW
    clear hW
    go_wp2_with (first | (refine wpList_load_blk rfl 35 _ rfl w.heap.size 35 _ _ rfl bk.out Tryd.underlying35 rfl (by as_aux_lemma => exact szc ha) ?_) | (go_at_call 27; refine (HV.out _).mono ?_; rintro e W2 ⟨rfl, hB2⟩))
    go_ret2
    exact ⟨rfl, (keep BW hB2).out⟩
  · have HRV := Lib.hid hv
    have HV := Lib.hid (fun w => valid_calls a ha w)
    rw [hv] at HV
    clear hv
    go_enter Tryd.func13, Tryd.ntmps13
    go_upto_region 1 with fail
    refine wp_named fun W hW => ?_
    obtain ⟨bk, BW, sW⟩ := box1 hW
    clear hW
    go_upto_region 4 with (first | (refine wpList_load_blk rfl 35 _ rfl w.heap.size 35 _ _ rfl bk.out Tryd.underlying35 rfl (by as_aux_lemma => exact szc ha) ?_) | (go_at_call 27; refine (HV.out _).mono ?_; rintro e W2 ⟨rfl, hB2⟩))
    have BW := keep BW hB2
    have bk := Lib.hid (bk.out.later hB2 bk.out.lt)
    have HT := Lib.hid (HT.out.later BW.out HT.out.lt)
    have HP := Lib.hid (HP.out.later BW.out)
    have c0 : W2.cell? ⟨g0, 0, none⟩ = some (.slice p n c) := by rw [HT.out.cell]; rfl
    clear hB2 HV sW
    go_wp2
    go_loopw [6, 7, 9, 18] (fun u6 u7 _ u wr => ∃ k : Nat, u = .int .i64 k ∧ k ≤ n ∧ u6 = .int .i64 (findB (s.take k) a).1 ∧ u7 = .int .i64 (findB (s.take k) a).2 ∧ Hid (Below W2.heap.size W2 wr)) (fun _ _ _ u _ => n - (intOf u).toNat)
    case atStart => exact ⟨0, rfl, Nat.zero_le _, rfl, rfl, Lib.hid (Below.refl _ _)⟩
    case round =>
      obtain ⟨k, rfl, hk, rfl, rfl, HB⟩ := hrel
      obtain ⟨cl, cb, hst⟩ : ∃ cl cb, findB (s.take k) a = (cl, cb) := ⟨_, _, rfl⟩
      rw [hst]
      have HST := Lib.hid hst
      clear hst
      by_cases hlt : k < n
      · have e1 : decide ((k : Int) < (n : Int)) = true := decide_eq_true (by omega)
        have e1' : decide (k < n) = true := decide_eq_true hlt
        have HK : Hid (k < s.length) := Lib.hid (by have := HN.out; omega)
        obtain ⟨r, hr⟩ : ∃ r, s[k]? = some r := ⟨_, List.getElem?_eq_getElem HK.out⟩
        have HR := Lib.hid hr
        have hwf := Lib.hid (HS.out r (List.mem_of_getElem? hr))
        have hap := HP.out.later HB.out
        clear hr
        rcases hap with ⟨_, hap⟩ | ⟨g, o, rfl, hgl, hh⟩
        · have := HK.out; rw [hap] at this; exact absurd this (Nat.not_lt_zero _)
        have HH := Lib.hid (hh k r HR.out)
        have bk := Lib.hid (bk.out.later HB.out bk.out.lt)
        clear hh hgl
        go_upto_region 7 with (first | (refine wpList_load_at rfl 44 _ rfl g (o + k * 19) r.vals _ rfl HH.out Tryd.underlying44 rfl (by as_aux_lemma => exact rsz hwf.out.ok) ?_) | (refine wpList_store_blk rfl 44 _ _ rfl wr.heap.size 44 zeroRt.cells r.cells rfl rfl (Blk.new _ _ _) (by rw [rcs hwf.out.ok, rcs zeroRt_ok]) (rszc hwf.out.ok) (rone _) ?_; intro W3 P3))
        obtain ⟨B7, b5, s7, t7⟩ := call_store (Below.refl wr.heap.size wr) P3
        have HB := keep HB B7.out
        have bk := Lib.hid (bk.out.later B7.out bk.out.lt)
        obtain ⟨G1, hG1⟩ : ∃ g, wr.heap.size = g := ⟨_, rfl⟩
        rw [hG1] at b5 ⊢
        have c17 := bits_at b5.out hwf.out.ok
        have c18 := link_at b5.out hwf.out.ok
        clear P3 B7 s7 t7 hG1 HH
        have HW := Lib.hid (fun w => within_calls a r.net ha hwf.out.ok r.bits w)
        obtain ⟨i, hi⟩ : ∃ i, a.within r.net r.bits = i := ⟨_, rfl⟩
        rw [hi] at HW
        have HI := Lib.hid hi
        clear hi
        by_cases h1 : cb < r.bits
        · have f1 : decide (cb < r.bits) = true := decide_eq_true h1
          cases i
          · have HNX : Hid (findB (s.take (k + 1)) a = (cl, cb)) := Lib.hid (by rw [findB_take HR.out, HST.out]; unfold pick; rw [if_neg (by rw [HI.out]; simp)])
            clear h1
            go_wp2_with (first | (refine wpList_load_blk rfl 35 _ rfl w.heap.size 35 _ _ rfl bk.out Tryd.underlying35 rfl (by as_aux_lemma => exact szc ha) ?_) | (refine wpList_load_at rfl 35 _ rfl G1 0 r.net.vals _ rfl (net_at b5.out) Tryd.underlying35 rfl (by as_aux_lemma => exact asz hwf.out.ok) ?_) | (go_at_call 28; refine (HW.out _).mono ?_; rintro e W4 ⟨rfl, hB4⟩))
            exact ⟨⟨k + 1, by go_num, by omega, by rw [HNX.out], by rw [HNX.out], keep HB hB4⟩, by simp [intOf]; omega⟩
          · have HNX : Hid (findB (s.take (k + 1)) a = (r.link, r.bits)) := Lib.hid (by rw [findB_take HR.out, HST.out]; unfold pick; rw [if_pos ⟨h1, HI.out⟩])
            clear h1
            go_upto_region 8 with (first | (refine wpList_load_blk rfl 35 _ rfl w.heap.size 35 _ _ rfl bk.out Tryd.underlying35 rfl (by as_aux_lemma => exact szc ha) ?_) | (refine wpList_load_at rfl 35 _ rfl G1 0 r.net.vals _ rfl (net_at b5.out) Tryd.underlying35 rfl (by as_aux_lemma => exact asz hwf.out.ok) ?_) | (go_at_call 28; refine (HW.out _).mono ?_; rintro e W4 ⟨rfl, hB4⟩))
            have HB := keep HB hB4
            have b5 := Lib.hid (b5.out.later hB4 b5.out.lt)
            have c17 := bits_at b5.out hwf.out.ok
            have c18 := link_at b5.out hwf.out.ok
            clear hB4
            go_quiet (fail)
            go_wp2
            exact ⟨⟨k + 1, by go_num, by omega, by rw [HNX.out], by rw [HNX.out], Lib.hid (Below.drewN' HB.out _)⟩, by simp [intOf]; omega⟩
        · have f1 : decide (cb < r.bits) = false := decide_eq_false h1
          have HNX : Hid (findB (s.take (k + 1)) a = (cl, cb)) := Lib.hid (by rw [findB_take HR.out, HST.out]; unfold pick; rw [if_neg (fun h => h1 h.1)])
          clear h1
          go_wp2
          exact ⟨⟨k + 1, by go_num, by omega, by rw [HNX.out], by rw [HNX.out], HB⟩, by simp [intOf]; omega⟩
      · have e1 : decide ((k : Int) < (n : Int)) = false := decide_eq_false (by omega)
        have e1' : decide (k < n) = false := decide_eq_false hlt
        have HF : Hid (findB s a = (cl, cb)) := Lib.hid (by
          have hkn : k = n := by omega
          rw [← HST.out, hkn, ← HN.out, List.take_length])
        clear hlt
        by_cases h2 : cb < 0
        · have f2 : decide (cb < 0) = true := decide_eq_true h2
          have HR : Hid (findV s a = (0, 210)) := Lib.hid (by unfold findV; rw [if_pos HRV.out, HF.out]; exact if_pos h2)
          clear h2
          go_wp2
          go_ret2
          exact ⟨by rw [HR.out]; rfl, (keep BW HB.out).out⟩
        · have f2 : decide (cb < 0) = false := decide_eq_false h2
          have HR : Hid (findV s a = (cl, 0)) := Lib.hid (by unfold findV; rw [if_pos HRV.out, HF.out]; exact if_neg h2)
          clear h2
          go_wp2
          go_ret2
          exact ⟨by rw [HR.out]; rfl, (keep BW HB.out).out⟩
end Go.Proofs.YtpaplobjmmpliaaDoor.Ad
