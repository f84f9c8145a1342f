/- The walk of RouteNets at a list that may be. Conditions: addresses have sixteen bytes, numbers lie within 64 bits, at most 1048576 destinations; the library tables hold what its text lays. -/
import Derived.Test.YtpaplobjmmpliaaDoorTc
namespace Go.Proofs.YtpaplobjmmpliaaDoor.Ad
set_option linter.unusedVariables false
set_option linter.unusedSimpArgs false
open Go.RowKit Go.Maps W
structure Fn (w : World) (t u : Value) (s : List Rt) (W : World) : Prop where
  below : Below w.heap.size w W
  gl : Gl W
  one : Tab w.heap.size W t s
  two : Tab w.heap.size W u s
theorem Fn.later {w W W' : World} {t u : Value} {s : List Rt} (h : Fn w t u s W) (hb : Below W.heap.size W W') : Fn w t u s W' := ⟨h.below.trans (hb.mono h.below.size), h.gl.later hb, h.one.later hb, h.two.later hb⟩
set_option maxRecDepth 100000 in
set_option maxHeartbeats 4000000 in
theorem nets_yes {l : List Rt} (hl : ∀ r ∈ l, r.wf) (hm : mayV l = true) {ds : List Addr} (hd : ∀ a ∈ ds, a.ok) (hdb : ds.length ≤ 1048576) (p : Option Go.Addr) (c : Nat) (qd : Option Go.Addr) (dd : Nat) (w : World) (hp : At w p l) (hn : p = none → c = 0) (hq : AtA w qd ds) (hg : Gl w) :
    Calls Tryd.prog 5 #[.slice p l.length c, .slice qd ds.length dd] w fun e w' => e = .returned (.bool true) ∧ Below w.heap.size w w' := by
  have HP := Lib.hid hp
  have HL := Lib.hid hl
  have HG := Lib.hid hg
  have HQ := Lib.hid hq
  have HD := Lib.hid hd
  have HGD := Lib.hid (may_good hm)
  have h32 := may_32 hm
  have HOW := Lib.hid (own_calls (fun r hr => (hl r hr).ok) (by omega) p c w hp hn)
  have HNW := Lib.hid (fun p c w' (h : AtS w' p l) => new_calls hl hm p c w' h)
  have HSR : sortV l.reverse = sortV l := sort_perm (fun r hr => (hl r hr).ok) (List.reverse_perm l) (may_good hm)
  have HNR := Lib.hid (fun p c w' (h : AtS w' p l.reverse) => new_calls (l := l.reverse) (fun r hr => hl r (List.mem_reverse.1 hr)) (by rw [may_perm (List.reverse_perm l)]; exact hm) p c w' h)
  rw [HSR] at HNR
  simp only [List.length_reverse] at HNR
  have HFI : Hid (∀ t w' a, a.ok → Tab w.heap.size w' t (sortV l) → Calls Tryd.prog 13 #[t, .agg a.vals.toArray] w' fun e w2 => e = .returned (.tuple #[.int .i64 (findV l a).1, .int .i64 (findV l a).2]) ∧ Below w'.heap.size w' w2) := Lib.hid fun t w' a ha ht => by
    have h := find_calls (sortV_wf hl) (by rw [sortV_len]; omega) w.heap.size t w' ht a ha
    rw [find_sort (fun r hr => (hl r hr).ok) (may_good hm)] at h
    exact h
  have HAL := Lib.hid (fun t w' (h : Tab w.heap.size w' t (sortV l)) => all_calls (sortV_wf hl) (by rw [sortV_len]; omega) w.heap.size t w' h)
  have HSA : Hid (∀ p1 c1 p2 c2 w', At w' p1 (sortV l) → At w' p2 (sortV l) → Calls Tryd.prog 15 #[.slice p1 l.length c1, .slice p2 l.length c2] w' fun e w2 => e = .returned (.bool true) ∧ Below w'.heap.size w' w2) := Lib.hid fun p1 c1 p2 c2 w' h1 h2 => by
    have h := same_calls (sortV_wf hl) (sortV_wf hl) (by rw [sortV_len]; omega) p1 c1 p2 c2 w' h1 h2
    rw [decide_eq_true rfl, sortV_len] at h
    exact h
  simp only [sortV_len] at HAL
  obtain ⟨i0, hi, hz0, hz1, hz2⟩ := info_parts (show (Tryd.prog.info? 44).map (fun i => (i.zero, i.size, i.bytes)) = some (some (.agg zeroRt.cells), 19, 40) by kernel_rfl)
  obtain ⟨n, hnn⟩ : ∃ n, l.length = n := ⟨_, rfl⟩
  obtain ⟨m, hmm⟩ : ∃ m, ds.length = m := ⟨_, rfl⟩
  have HN := Lib.hid hnn
  have HDM := Lib.hid hmm
  rw [hmm] at hdb
  rw [hnn] at HOW HNW HNR HAL HSA h32
  rw [hnn, hmm]
  clear hp hg hm hl hn hnn hmm hq hd HSR
  go_enter Tryd.func5, Tryd.ntmps5
  go_upto_region 2 with (first | (go_at_call 10; refine HOW.out.mono ?_; rintro e W2 ⟨p1, c1, rfl, hA1, _, hB2⟩) | (go_at_call 9; refine (HNW.out _ _ _ hA1).mono ?_; rintro e W3 ⟨t, rfl, hT, hB3⟩))
  have HB := Lib.hid (hB2.trans (hB3.mono hB2.size))
  have HT1 := Lib.hid (hT.mono hB2.size)
  obtain ⟨g1, _, rfl⟩ := HT1.out.ptr
  clear hB2 hB3 hA1 hT HOW HNW
  go_wp2
  go_loopw [7, 8] (fun u7 u8 wr => ∃ (i : Int) (j : Nat) (q : Option Go.Addr) (d : Nat), u8 = .int .i64 i ∧ u7 = .slice q j d ∧ i + 1 + j = n ∧ -1 ≤ i ∧ Hid (wr.ownsRow W3.heap.size 44 19 (.slice q j d) j (flat (l.reverse.take j))) ∧ Hid (Below W3.heap.size W3 wr)) (fun _ u8 _ => (intOf u8 + 1).toNat)
  case atStart => exact ⟨(n : Int) - 1, 0, none, 0, by go_num, rfl, by omega, by omega, Lib.hid (World.ownsRow_nil _ _ _ _), Lib.hid (Below.refl _ _)⟩
  case round =>
    obtain ⟨i, j, q, d, rfl, rfl, hij, hi1, HO, HB2⟩ := hrel
    by_cases hi0 : 0 ≤ i
    · obtain ⟨k, rfl⟩ := Int.eq_ofNat_of_zero_le hi0
      have e1 : decide ((0 : Int) ≤ (k : Int)) = true := decide_eq_true hi0
      have HK : Hid (k < l.length) := Lib.hid (by have := HN.out; omega)
      obtain ⟨r, hr⟩ : ∃ r, l[k]? = some r := ⟨_, List.getElem?_eq_getElem HK.out⟩
      have HR := Lib.hid hr
      have hwf := Lib.hid (HL.out r (List.mem_of_getElem? hr))
      have hap := HP.out.later (HB.out.trans (HB2.out.mono HB.out.size))
      clear hr
      rcases hap with hap | ⟨g, o, rfl, hgl, hh⟩
      · have := HK.out; rw [hap] at this; exact absurd this (Nat.not_lt_zero _)
      have HX := Lib.hid (hh k r HR.out)
      have HB3 := keep HB HB2.out
      clear hh hgl
      have hkn : k < n := by omega
      have hjn : j ≤ 1048576 := by omega
      go_wp2_with (first | (refine wpList_load_at rfl 44 _ rfl g (o + k * 19) r.vals _ rfl HX.out Tryd.underlying44 rfl (by as_aux_lemma => exact rsz hwf.out.ok) ?_) | (refine wpList_slice1 rfl _ rfl r hwf.out.ok rfl ?_) | (at_builtin; refine wpList_append_own _ rfl _ _ 22 rfl W3.heap.size 44 i0 _ 19 40 Tryd.underlying22 hi hz0 hz1 hz2 (by rfl) (by omega) _ j (flat (l.reverse.take j)) rfl (World.ownsRow.alloc HO.out _) ⟨wr.heap.size, 0, none⟩ 1 1 r.vals rfl (by rw [vals_len hwf.out.ok]) (news_rt wr r) (vals_one r) (by unfold maxLen; omega) (by omega) (by have := HB2.out.size; simp; omega) ?_; intro v' w1 hown1 hgrow1 hnil1))
      have htk : l.reverse.take (j + 1) = l.reverse.take j ++ [r] := by
        rw [List.take_add_one]
        have : l.reverse[j]? = some r := by
          rw [List.getElem?_reverse (by have := HN.out; omega), show l.length - 1 - j = k by have := HN.out; omega]; exact HR.out
        rw [this]; rfl
      have hwr : ∀ x ∈ l.reverse, x.ok := fun x hx => (HL.out x (List.mem_reverse.1 hx)).ok
      have hown2 : w1.ownsRow W3.heap.size 44 19 v' (j + 1) (flat (l.reverse.take (j + 1))) := by rw [htk, flat_snoc]; exact hown1
      have hlk : (l.reverse.take (j + 1)).length = j + 1 := by rw [List.length_take, List.length_reverse, Nat.min_eq_left (by have := HN.out; omega)]
      have hlk0 : (l.reverse.take j).length = j := by rw [List.length_take, List.length_reverse, Nat.min_eq_left (by have := HN.out; omega)]
      obtain ⟨p', c', rfl, h1, h2⟩ := row_ats (w := w1) (n := 0) (l := l.reverse.take (j + 1)) (B := W3.heap.size) (v := v') (fun x hx => hwr x (List.mem_of_mem_take hx)) (by rw [hlk]; exact hown2)
      rw [hlk] at hown2 ⊢
      obtain ⟨q', c2, hq', h3, h4⟩ := row_ats (w := wr) (n := 0) (l := l.reverse.take j) (B := W3.heap.size) (fun x hx => hwr x (List.mem_of_mem_take hx)) (by rw [hlk0]; exact HO.out)
      injection hq' with hq' _ _
      subst hq'
      have HBW : Hid (Below W3.heap.size W3 w1) := Lib.hid ((HB2.out.alloc HB2.out.size _).grown hgrow1 (by have := HB2.out.size; simp; omega) (fun jj hj => by
        cases q with
        | none => cases hj
        | some a => injection hj with hj; subst hj; exact h4 a rfl))
      exact ⟨⟨(k : Int) - 1, j + 1, p', c', by go_num, rfl, by omega, by omega, Lib.hid hown2, HBW⟩, by simp [intOf] <;> omega⟩
    · have e1 : decide ((0 : Int) ≤ i) = false := decide_eq_false hi0
      obtain rfl : j = n := by omega
      have htk : l.reverse.take j = l.reverse := by rw [← HN.out, ← List.length_reverse]; exact List.take_length
      have ho := HO.out
      rw [htk] at ho
      obtain ⟨p', c', e, h1, h2⟩ := row_ats (w := wr) (n := 0) (l := l.reverse) (B := W3.heap.size) (fun x hx => (HL.out x (List.mem_reverse.1 hx)).ok) (by rw [List.length_reverse, HN.out]; exact ho)
      injection e with e1' e2 e3
      subst e1'; subst e3
      have HB3 := keep HB HB2.out
      have HT1 := Lib.hid (HT1.out.later HB2.out)
      have HAT := Lib.hid h1
      clear hi0 ho h1 h2 e2 htk HO
      go_upto_region 8 with (go_at_call 9; refine (HNR.out _ _ _ HAT.out).mono ?_; rintro e W5 ⟨u, rfl, hU, hB5⟩)
      have HU := hU.mono HB3.out.size
      obtain ⟨g2, _, rfl⟩ := HU.ptr
      have HB4 := keep HB3 hB5
      have HA : Hid (Fn w (.pointer (some ⟨g1, 0, none⟩)) (.pointer (some ⟨g2, 0, none⟩)) (sortV l) W5) := Lib.hid ⟨HB4.out, HG.out.later HB4.out, HT1.out.later hB5, HU⟩
      clear hB5 hU HU HB4 HB3 HT1 HNR HAT
      go_upto_region 12 with (go_at_call 11; refine (known_calls _ HA.out.gl).mono ?_; rintro e W6 ⟨rfl, hB6⟩; have HA := Lib.hid (HA.out.later hB6); clear hB6)
      have f0 : ((j : Int) != (j : Int)) = false := bne_self_eq_false _
      go_upto_region 14 with (first | (go_at_call 16; first | (refine (HAL.out (.pointer (some ⟨g1, 0, none⟩)) _ HA.out.one).mono ?_; rintro e W8 ⟨p1, c1, rfl, hP1, _, hB8⟩; have HA := Lib.hid (HA.out.later hB8); clear hB8) | (refine (HAL.out (.pointer (some ⟨g2, 0, none⟩)) _ HA.out.two).mono ?_; rintro e W9 ⟨p2, c2, rfl, hP2, _, hB9⟩; have HA := Lib.hid (HA.out.later hB9))) | (go_at_call 15; refine (HSA.out _ _ _ _ _ (hP1.later hB9).at hP2.at).mono ?_; rintro e W10 ⟨rfl, hB10⟩; have HA := Lib.hid (HA.out.later hB10); clear hB10))
      clear HAL HSA hP1 hP2 hB9 f0
      go_wp2
      go_loopw [11, 12, 13, 14, 15, 16, 17, 18] (fun u _ _ _ _ _ _ _ wr => ∃ kd : Nat, u = .int .i64 kd ∧ kd ≤ m ∧ Hid (Fn w (.pointer (some ⟨g1, 0, none⟩)) (.pointer (some ⟨g2, 0, none⟩)) (sortV l) wr)) (fun u _ _ _ _ _ _ _ _ => m - (intOf u).toNat)
      case atStart => exact ⟨0, rfl, Nat.zero_le _, HA⟩
      case round =>
        obtain ⟨kd, rfl, hkd, HA⟩ := hrel
        by_cases hlt : kd < m
        · have e1 : decide ((kd : Int) < (m : Int)) = true := decide_eq_true (by omega)
          have e1' : decide (kd < m) = true := decide_eq_true hlt
          have HK : Hid (kd < ds.length) := Lib.hid (by have := HDM.out; omega)
          obtain ⟨a, ha⟩ : ∃ r, ds[kd]? = some r := ⟨_, List.getElem?_eq_getElem HK.out⟩
          have hao := Lib.hid (HD.out a (List.mem_of_getElem? ha))
          have hap := HQ.out.later HA.out.below
          have HAI := Lib.hid ha
          clear ha
          rcases hap with hap | ⟨ga, oa, rfl, hgl, hh⟩
          · have := HK.out; rw [hap] at this; exact absurd this (Nat.not_lt_zero _)
          have HX := Lib.hid (hh kd a HAI.out)
          have HGA := Lib.hid hgl
          clear hh hgl
          have FI := Lib.hid (fun t w' h => HFI.out t w' a hao.out h)
          obtain ⟨x, hx⟩ : ∃ x, (findV l a).1 = x := ⟨_, rfl⟩
          obtain ⟨y, hy⟩ : ∃ x, (findV l a).2 = x := ⟨_, rfl⟩
          rw [hx, hy] at FI
          have HXX := Lib.hid hx
          have HYY := Lib.hid hy
          have f1 : (x != x) = false := bne_self_eq_false _
          have f2 : (y != y) = false := bne_self_eq_false _
          clear hx hy
          go_upto_region 18 with (first | (refine wpList_load_at rfl 35 _ rfl ga (oa + kd * 17) a.vals _ rfl HX.out Tryd.underlying35 rfl (by as_aux_lemma => exact asz hao.out) ?_) | (go_at_call 13; refine (FI.out (.pointer (some ⟨g1, 0, none⟩)) _ HA.out.one).mono ?_; rintro e W11 ⟨rfl, hB11⟩))
          have HA := Lib.hid (HA.out.later hB11)
          have HX : Hid (W11.rangeAt ga (oa + kd * 17) a.vals) := Lib.hid fun j v hv => (hB11.cell (by exact HGA.out)).trans (HX.out j v hv)
          have HGA := Lib.hid (Nat.lt_of_lt_of_le HGA.out hB11.size)
          clear hB11
          go_upto_region 21 with (first | (refine wpList_load_at rfl 35 _ rfl ga (oa + kd * 17) a.vals _ rfl HX.out Tryd.underlying35 rfl (by as_aux_lemma => exact asz hao.out) ?_) | (go_at_call 13; refine (FI.out (.pointer (some ⟨g2, 0, none⟩)) _ HA.out.two).mono ?_; rintro e W12 ⟨rfl, hB12⟩))
          have HA := Lib.hid (HA.out.later hB12)
          have HX : Hid (W12.rangeAt ga (oa + kd * 17) a.vals) := Lib.hid fun j v hv => (hB12.cell (by exact HGA.out)).trans (HX.out j v hv)
          have HGA := Lib.hid (Nat.lt_of_lt_of_le HGA.out hB12.size)
          clear hB12 FI
          cases hv : a.valid
          · have hy1 : y = 1 := by have := HYY.out; rw [find_bad hv] at this; exact this.symm
            have f3 : (y == 1) = true := beq_iff_eq.2 hy1
            clear hv hy1
            go_wp2
            exact ⟨⟨kd + 1, by go_num, by omega, HA⟩, by simp [intOf]; omega⟩
          · have HV := Lib.hid hv
            obtain ⟨bl, hbl⟩ : ∃ b, (findB l a).2 = b := ⟨_, rfl⟩
            have HBL := Lib.hid hbl
            have hy1 : (bl < 0 ∧ y = 210) ∨ (¬ bl < 0 ∧ y = 0 ∧ (findB l a).1 = x) := by
              have h1 := HYY.out
              have h2 := HXX.out
              unfold findV at h1 h2
              rw [if_pos hv, hbl] at h1 h2
              by_cases h : bl < 0
              · rw [if_pos h] at h1; exact .inl ⟨h, h1.symm⟩
              · rw [if_neg h] at h1 h2; exact .inr ⟨h, h1.symm, h2⟩
            have HY1 := Lib.hid hy1
            have f3 : (y == 1) = false := beq_eq_false_iff_ne.2 (by omega)
            clear hv hbl hy1
            go_wp2
            go_loopw [16, 17] (fun u16 u17 w2 => ∃ k : Nat, u17 = .int .i64 k ∧ u16 = .int .i64 (findB (l.take k) a).2 ∧ k ≤ j ∧ Hid (Below W12.heap.size W12 w2)) (fun _ u17 _ => j - (intOf u17).toNat)
            case atStart => exact ⟨0, rfl, rfl, Nat.zero_le _, Lib.hid (Below.refl _ _)⟩
            case round =>
              obtain ⟨k, rfl, rfl, hk, HB2⟩ := hrel
              obtain ⟨cl, cb, hst⟩ : ∃ cl cb, findB (l.take k) a = (cl, cb) := ⟨_, _, rfl⟩
              rw [hst]
              have HST := Lib.hid hst
              have HA2 := Lib.hid (HA.out.later HB2.out)
              have HXZ : Hid (wr.rangeAt ga (oa + kd * 17) a.vals) := Lib.hid fun j v hv => (HB2.out.cell (by exact HGA.out)).trans (HX.out j v hv)
              clear hst
              by_cases hkn : k < j
              · have e2 : decide ((k : Int) < (j : Int)) = true := decide_eq_true (by omega)
                have e2' : decide (k < j) = true := decide_eq_true hkn
                have HKL : Hid (k < l.length) := Lib.hid (by have := HN.out; omega)
                obtain ⟨r, hr⟩ : ∃ r, l[k]? = some r := ⟨_, List.getElem?_eq_getElem HKL.out⟩
                have HR := Lib.hid hr
                have hwf := Lib.hid (HL.out r (List.mem_of_getElem? hr))
                have hap := HP.out.later HA2.out.below
                clear hr
                rcases hap with hap | ⟨g, o, rfl, hgl, hh⟩
                · have := HKL.out; rw [hap] at this; exact absurd this (Nat.not_lt_zero _)
                have HH := Lib.hid hh
                have HGL := Lib.hid hgl
                have HRV := Lib.hid (hh k r HR.out)
                have c17 : ∀ z : Later wr, z.val.cell? ⟨g, o + k * 19 + 17, none⟩ = some (.int .i64 r.bits) := Later.cell (hh.bits HR.out hwf.out.ok)
                clear hh hgl
                have HLI := Lib.hid (fun w => lies_calls a hao.out HV.out r hwf.out.ok (good_one HGD.out (List.mem_of_getElem? HR.out)) w)
                obtain ⟨ii, hii⟩ : ∃ i, a.within r.net r.bits = i := ⟨_, rfl⟩
                rw [hii] at HLI
                have HI := Lib.hid hii
                clear hii
                go_upto_region 26 with fail
                cases ii
                · have HNX : Hid (findB (l.take (k + 1)) a = (cl, cb)) := Lib.hid (by rw [findB_take HR.out, HST.out]; unfold pick; rw [if_neg (by rw [HI.out]; simp)])
                  refine region_later (by kernel_rfl) (by kernel_rfl) ?_
                  repeat (first | go_big_quiet_skip | (go_big_quiet_want; first | (refine quiet_at 35 _ rfl ga (oa + kd * 17) a.vals _ rfl HXZ.out Tryd.underlying35 rfl (by as_aux_lemma => exact asz hao.out) ?_; simp only [Act.put, List.setIfInBounds_toArray, List.set_cons_zero, List.set_cons_succ]; go_big_quiet_on) | (refine quiet_at 44 _ rfl g (o + k * 19) r.vals _ rfl HRV.out Tryd.underlying44 rfl (by as_aux_lemma => exact rsz hwf.out.ok) ?_; simp only [Act.put, List.setIfInBounds_toArray, List.set_cons_zero, List.set_cons_succ]; go_big_quiet_on) | (go_big_quiet_op; first | go_big_quiet_on | go_big_quiet_call ((go_at_call 20; exact calls_later (HLI.out _))))))
                  refine wpQuiet_nil ?_
                  intro z hz
                  have HBz := Lib.hid (HB2.out.trans (hz.mono HB2.out.size))
                  clear hz
                  go_wp2
                  exact ⟨⟨k + 1, by go_num, by rw [HNX.out], by omega, HBz⟩, by simp [intOf]; omega⟩
                · by_cases h1 : cb < r.bits
                  · have f4 : decide (cb < r.bits) = true := decide_eq_true h1
                    have HNX : Hid (findB (l.take (k + 1)) a = (r.link, r.bits)) := Lib.hid (by rw [findB_take HR.out, HST.out]; unfold pick; rw [if_pos ⟨h1, HI.out⟩])
                    clear h1
                    refine region_later (by kernel_rfl) (by kernel_rfl) ?_
                    repeat (first | go_big_quiet_skip | (go_big_quiet_want; first | (refine quiet_at 35 _ rfl ga (oa + kd * 17) a.vals _ rfl HXZ.out Tryd.underlying35 rfl (by as_aux_lemma => exact asz hao.out) ?_; simp only [Act.put, List.setIfInBounds_toArray, List.set_cons_zero, List.set_cons_succ]; go_big_quiet_on) | (refine quiet_at 44 _ rfl g (o + k * 19) r.vals _ rfl HRV.out Tryd.underlying44 rfl (by as_aux_lemma => exact rsz hwf.out.ok) ?_; simp only [Act.put, List.setIfInBounds_toArray, List.set_cons_zero, List.set_cons_succ]; go_big_quiet_on) | (go_big_quiet_op; first | go_big_quiet_on | go_big_quiet_call ((go_at_call 20; exact calls_later (HLI.out _))))))
                    refine wpQuiet_nil ?_
                    intro z hz
                    have HBz := Lib.hid (HB2.out.trans (hz.mono HB2.out.size))
                    have hhz := HH.out.later hz HGL.out
                    clear hz c17
                    have c17 := hhz.bits HR.out hwf.out.ok
                    clear hhz
                    go_wp2
                    exact ⟨⟨k + 1, by go_num, by rw [HNX.out], by omega, HBz⟩, by simp [intOf]; omega⟩
                  · have f4 : decide (cb < r.bits) = false := decide_eq_false h1
                    have HNX : Hid (findB (l.take (k + 1)) a = (cl, cb)) := Lib.hid (by rw [findB_take HR.out, HST.out]; unfold pick; rw [if_neg (fun h => h1 h.1)])
                    clear h1
                    refine region_later (by kernel_rfl) (by kernel_rfl) ?_
                    repeat (first | go_big_quiet_skip | (go_big_quiet_want; first | (refine quiet_at 35 _ rfl ga (oa + kd * 17) a.vals _ rfl HXZ.out Tryd.underlying35 rfl (by as_aux_lemma => exact asz hao.out) ?_; simp only [Act.put, List.setIfInBounds_toArray, List.set_cons_zero, List.set_cons_succ]; go_big_quiet_on) | (refine quiet_at 44 _ rfl g (o + k * 19) r.vals _ rfl HRV.out Tryd.underlying44 rfl (by as_aux_lemma => exact rsz hwf.out.ok) ?_; simp only [Act.put, List.setIfInBounds_toArray, List.set_cons_zero, List.set_cons_succ]; go_big_quiet_on) | (go_big_quiet_op; first | go_big_quiet_on | go_big_quiet_call ((go_at_call 20; exact calls_later (HLI.out _))))))
                    refine wpQuiet_nil ?_
                    intro z hz
                    have HBz := Lib.hid (HB2.out.trans (hz.mono HB2.out.size))
                    clear hz
                    go_wp2
                    exact ⟨⟨k + 1, by go_num, by rw [HNX.out], by omega, HBz⟩, by simp [intOf]; omega⟩
              · have e2 : decide ((k : Int) < (j : Int)) = false := decide_eq_false (by omega)
                have e2' : decide (k < j) = false := decide_eq_false hkn
                have hcb : cb = bl := by
                  have hkj : k = l.length := by have := HN.out; omega
                  have h1 := HST.out
                  rw [hkj, List.take_length] at h1
                  have h2 := HBL.out
                  rw [h1] at h2; exact h2
                subst hcb
                clear hkn
                rcases HY1.out with ⟨hb0, rfl⟩ | ⟨hb0, rfl, hlk⟩
                · have f5 : decide (cb < 0) = true := decide_eq_true hb0
                  clear hb0 HYY
                  go_wp2
                  go_loopw [18] (fun u18 w3 => ∃ k : Nat, u18 = .int .i64 k ∧ k ≤ j ∧ Hid (Below W12.heap.size W12 w3)) (fun u18 _ => j - (intOf u18).toNat)
                  case atStart => exact ⟨0, rfl, Nat.zero_le _, HB2⟩
                  case round =>
                    obtain ⟨k, rfl, hk, HB2⟩ := hrel
                    by_cases hkn : k < j
                    · have e2 : decide ((k : Int) < (j : Int)) = true := decide_eq_true (by omega)
                      have e2' : decide (k < j) = true := decide_eq_true hkn
                      go_upto_region 33 with fail
                      refine region_later (by kernel_rfl) (by kernel_rfl) ?_
                      repeat (first | go_big_quiet_skip | (go_big_quiet_want; first | (go_big_quiet_op; first | go_big_quiet_on | go_big_quiet_call (fail))))
                      refine wpQuiet_nil ?_
                      intro z hz
                      have HBz := Lib.hid (HB2.out.trans (hz.mono HB2.out.size))
                      clear hz
                      go_wp2
                      exact ⟨⟨k + 1, by go_num, by omega, HBz⟩, by simp [intOf]; omega⟩
                    · have e2 : decide ((k : Int) < (j : Int)) = false := decide_eq_false (by omega)
                      have e2' : decide (k < j) = false := decide_eq_false hkn
                      clear hkn
                      go_wp2
                      exact ⟨⟨kd + 1, by go_num, by omega, Lib.hid (HA.out.later HB2.out)⟩, by simp [intOf]; omega⟩
                · have f5 : decide (cb < 0) = false := decide_eq_false (by omega)
                  have HLK := Lib.hid hlk
                  clear hb0 HYY hlk
                  go_wp2
                  go_loopw [18] (fun u18 w3 => ∃ k : Nat, u18 = .int .i64 k ∧ k ≤ j ∧ Hid (Below W12.heap.size W12 w3)) (fun u18 _ => j - (intOf u18).toNat)
                  case atStart => exact ⟨0, rfl, Nat.zero_le _, HB2⟩
                  case round =>
                    obtain ⟨k, rfl, hk, HB2⟩ := hrel
                    by_cases hkn : k < j
                    · have e2 : decide ((k : Int) < (j : Int)) = true := decide_eq_true (by omega)
                      have e2' : decide (k < j) = true := decide_eq_true hkn
                      have HA2 := Lib.hid (HA.out.later HB2.out)
                      have HXZ : Hid (wr.rangeAt ga (oa + kd * 17) a.vals) := Lib.hid fun j v hv => (HB2.out.cell (by exact HGA.out)).trans (HX.out j v hv)
                      have HKL : Hid (k < l.length) := Lib.hid (by have := HN.out; omega)
                      obtain ⟨r, hr⟩ : ∃ r, l[k]? = some r := ⟨_, List.getElem?_eq_getElem HKL.out⟩
                      have HR := Lib.hid hr
                      have hwf := Lib.hid (HL.out r (List.mem_of_getElem? hr))
                      have hap := HP.out.later HA2.out.below
                      clear hr
                      rcases hap with hap | ⟨g, o, rfl, hgl, hh⟩
                      · have := HKL.out; rw [hap] at this; exact absurd this (Nat.not_lt_zero _)
                      have HRV := Lib.hid (hh k r HR.out)
                      have c17 : ∀ z : Later wr, z.val.cell? ⟨g, o + k * 19 + 17, none⟩ = some (.int .i64 r.bits) := Later.cell (hh.bits HR.out hwf.out.ok)
                      have c18 : ∀ z : Later wr, z.val.cell? ⟨g, o + k * 19 + 18, none⟩ = some (.int .i64 r.link) := Later.cell (hh.link HR.out hwf.out.ok)
                      clear hh hgl
                      have HLI := Lib.hid (fun w => lies_calls a hao.out HV.out r hwf.out.ok (good_one HGD.out (List.mem_of_getElem? HR.out)) w)
                      obtain ⟨ii, hii⟩ : ∃ i, a.within r.net r.bits = i := ⟨_, rfl⟩
                      rw [hii] at HLI
                      have HI := Lib.hid hii
                      clear hii
                      go_upto_region 33 with fail
                      cases ii
                      · skip
                        refine region_later (by kernel_rfl) (by kernel_rfl) ?_
                        repeat (first | go_big_quiet_skip | (go_big_quiet_want; first | (refine quiet_at 35 _ rfl ga (oa + kd * 17) a.vals _ rfl HXZ.out Tryd.underlying35 rfl (by as_aux_lemma => exact asz hao.out) ?_; simp only [Act.put, List.setIfInBounds_toArray, List.set_cons_zero, List.set_cons_succ]; go_big_quiet_on) | (refine quiet_at 44 _ rfl g (o + k * 19) r.vals _ rfl HRV.out Tryd.underlying44 rfl (by as_aux_lemma => exact rsz hwf.out.ok) ?_; simp only [Act.put, List.setIfInBounds_toArray, List.set_cons_zero, List.set_cons_succ]; go_big_quiet_on) | (go_big_quiet_op; first | go_big_quiet_on | go_big_quiet_call ((go_at_call 20; exact calls_later (HLI.out _))))))
                        refine wpQuiet_nil ?_
                        intro z hz
                        have HBz := Lib.hid (HB2.out.trans (hz.mono HB2.out.size))
                        clear hz
                        go_wp2
                        exact ⟨⟨k + 1, by go_num, by omega, HBz⟩, by simp [intOf]; omega⟩
                      · by_cases h1 : r.bits = cb
                        · have f6 : (r.bits == cb) = true := beq_iff_eq.2 h1
                          have f7 : (r.link != x) = false := bne_eq_false_iff_eq.2 (by
                            have h2 := best_link HGD.out (List.mem_of_getElem? HR.out) HI.out (by rw [HBL.out]; exact h1)
                            rw [h2]; exact HLK.out)
                          clear h1
                          refine region_later (by kernel_rfl) (by kernel_rfl) ?_
                          repeat (first | go_big_quiet_skip | (go_big_quiet_want; first | (refine quiet_at 35 _ rfl ga (oa + kd * 17) a.vals _ rfl HXZ.out Tryd.underlying35 rfl (by as_aux_lemma => exact asz hao.out) ?_; simp only [Act.put, List.setIfInBounds_toArray, List.set_cons_zero, List.set_cons_succ]; go_big_quiet_on) | (refine quiet_at 44 _ rfl g (o + k * 19) r.vals _ rfl HRV.out Tryd.underlying44 rfl (by as_aux_lemma => exact rsz hwf.out.ok) ?_; simp only [Act.put, List.setIfInBounds_toArray, List.set_cons_zero, List.set_cons_succ]; go_big_quiet_on) | (go_big_quiet_op; first | go_big_quiet_on | go_big_quiet_call ((go_at_call 20; exact calls_later (HLI.out _))))))
                          refine wpQuiet_nil ?_
                          intro z hz
                          have HBz := Lib.hid (HB2.out.trans (hz.mono HB2.out.size))
                          clear hz
                          go_wp2
                          exact ⟨⟨k + 1, by go_num, by omega, HBz⟩, by simp [intOf]; omega⟩
                        · have f6 : (r.bits == cb) = false := beq_eq_false_iff_ne.2 h1
                          clear h1
                          refine region_later (by kernel_rfl) (by kernel_rfl) ?_
                          repeat (first | go_big_quiet_skip | (go_big_quiet_want; first | (refine quiet_at 35 _ rfl ga (oa + kd * 17) a.vals _ rfl HXZ.out Tryd.underlying35 rfl (by as_aux_lemma => exact asz hao.out) ?_; simp only [Act.put, List.setIfInBounds_toArray, List.set_cons_zero, List.set_cons_succ]; go_big_quiet_on) | (refine quiet_at 44 _ rfl g (o + k * 19) r.vals _ rfl HRV.out Tryd.underlying44 rfl (by as_aux_lemma => exact rsz hwf.out.ok) ?_; simp only [Act.put, List.setIfInBounds_toArray, List.set_cons_zero, List.set_cons_succ]; go_big_quiet_on) | (go_big_quiet_op; first | go_big_quiet_on | go_big_quiet_call ((go_at_call 20; exact calls_later (HLI.out _))))))
                          refine wpQuiet_nil ?_
                          intro z hz
                          have HBz := Lib.hid (HB2.out.trans (hz.mono HB2.out.size))
                          clear hz
                          go_wp2
                          exact ⟨⟨k + 1, by go_num, by omega, HBz⟩, by simp [intOf]; omega⟩
                    · have e2 : decide ((k : Int) < (j : Int)) = false := decide_eq_false (by omega)
                      have e2' : decide (k < j) = false := decide_eq_false hkn
                      clear hkn
                      go_wp2
                      exact ⟨⟨kd + 1, by go_num, by omega, Lib.hid (HA.out.later HB2.out)⟩, by simp [intOf]; omega⟩
        · have e1 : decide ((kd : Int) < (m : Int)) = false := decide_eq_false (by omega)
          have e1' : decide (kd < m) = false := decide_eq_false hlt
          clear hlt
          go_wp2
          go_ret
          exact ⟨rfl, HA.out.below⟩
theorem nets_calls {l : List Rt} (hl : ∀ r ∈ l, r.wf) {ds : List Addr} (hd : ∀ a ∈ ds, a.ok) (hb : l.length ≤ 1048576) (hdb : ds.length ≤ 1048576) (p : Option Go.Addr) (c : Nat) (q : Option Go.Addr) (d : Nat) (w : World) (hp : At w p l) (hn : p = none → c = 0) (hq : AtA w q ds) (hg : Gl w) :
    Calls Tryd.prog 5 #[.slice p l.length c, .slice q ds.length d] w fun e w' => e = .returned (.bool true) ∧ Below w.heap.size w w' := by
  cases hm : mayV l
  · exact nets_no hl hm hb p c _ w hp hn hg
  · exact nets_yes hl hm hd hdb p c q d w hp hn hq hg
end Go.Proofs.YtpaplobjmmpliaaDoor.Ad
