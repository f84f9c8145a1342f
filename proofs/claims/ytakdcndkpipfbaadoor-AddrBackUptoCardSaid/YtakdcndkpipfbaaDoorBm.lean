/- Contract of the reference's Print. Conditions: an address has sixteen bytes. -/
import Derived.Test.YtakdcndkpipfbaaDoorBl
namespace Go.Proofs.YtakdcndkpipfbaaDoor.Ad
set_option linter.unusedVariables false
set_option linter.unusedSimpArgs false
open Go.RowKit W
theorem some_is {a : Addr} {i n : Nat} {x y : Int} (ha : a.ok) (hn : i + n ≤ 8) (hx : x = (i : Int)) (hy : y = ((i + n : Nat) : Int)) (w : World) : Calls Tryd.prog 34 #[.agg a.cells, .int .i64 x, .int .i64 y] w fun e w' => e = .returned (.string (S (joinG a.b i n))) ∧ Below w.heap.size w w' := by
  subst hx; subst hy; exact some_calls a ha i n hn w
set_option maxRecDepth 100000 in
set_option maxHeartbeats 4000000 in
theorem rprint_calls (a : Addr) (ha : a.ok) (w : World) : Calls Tryd.prog 17 #[.agg a.cells] w fun e w' => e = .returned (.string (S (printV a))) ∧ Below w.heap.size w w' := by
  obtain ⟨q, hq⟩ : ∃ q, a.valid = q := ⟨_, rfl⟩
  have HV := Lib.hid hq
  cases q
  · have HR : Hid (printV a = []) := Lib.hid (by unfold printV; rw [hq]; rfl)
    clear hq
    go_enter Tryd.func17, Tryd.ntmps17
    go_upto_region 1 with fail
    refine wp_named fun W hW => ?_
    obtain ⟨bk, BW, sW⟩ := box1 hW
    clear hW
    go_upto_region 2 with (first | (refine wpList_load_blk rfl 24 _ rfl w.heap.size 24 _ _ rfl bk.out Tryd.underlying24 rfl (by as_aux_lemma => exact szc ‹_›) ?_) | (go_at_call 13; refine (rvalid_calls a ha _).mono ?_; rintro e W2 ⟨rfl, hB⟩))
    have BW2 := keep BW hB
    clear hB
    rw [HV.out]
    go_wp2
    go_ret
    exact ⟨by rw [HR.out]; rfl, BW2.out⟩
  · by_cases h4 : a.v = 4
    · have HR : Hid (printV a = print4 a.b) := Lib.hid (by unfold printV; rw [hq, if_pos rfl, if_pos h4])
      have e4 : (a.v == 4) = true := beq_iff_eq.2 h4
      clear hq h4
      go_enter Tryd.func17, Tryd.ntmps17
      go_upto_region 1 with fail
      refine wp_named fun W hW => ?_
      obtain ⟨bk, BW, sW⟩ := box1 hW
      clear hW
      go_upto_region 2 with (first | (refine wpList_load_blk rfl 24 _ rfl w.heap.size 24 _ _ rfl bk.out Tryd.underlying24 rfl (by as_aux_lemma => exact szc ‹_›) ?_) | (go_at_call 13; refine (rvalid_calls a ha _).mono ?_; rintro e W2 ⟨rfl, hB⟩))
      have BW2 := keep BW hB
      have K0 := Lib.hid (bk.out.later hB (by have := sW.out; omega))
      clear hB
      rw [HV.out]
      have cv := cell_v K0.out
      obtain ⟨n0, hn0⟩ : ∃ n, (a.b.getD 0 0).toNat = n := ⟨_, rfl⟩
      have c0 : ∀ z : Later W2, z.val.cell? ⟨w.heap.size, 1, none⟩ = some (.int .u8 (n0 : Int)) := fun z => by
        have := cell_b (K0.out.later z.property K0.out.lt) ha 0 (by omega)
        rwa [hn0] at this
      have hb0 : n0 < 256 := by rw [← hn0]; exact (a.b.getD 0 0).toNat_lt
      have HB0 : Hid (n0 < 65536) := Lib.hid (by omega)
      obtain ⟨n1, hn1⟩ : ∃ n, (a.b.getD 1 0).toNat = n := ⟨_, rfl⟩
      have c1 : ∀ z : Later W2, z.val.cell? ⟨w.heap.size, 2, none⟩ = some (.int .u8 (n1 : Int)) := fun z => by
        have := cell_b (K0.out.later z.property K0.out.lt) ha 1 (by omega)
        rwa [hn1] at this
      have hb1 : n1 < 256 := by rw [← hn1]; exact (a.b.getD 1 0).toNat_lt
      have HB1 : Hid (n1 < 65536) := Lib.hid (by omega)
      obtain ⟨n2, hn2⟩ : ∃ n, (a.b.getD 2 0).toNat = n := ⟨_, rfl⟩
      have c2 : ∀ z : Later W2, z.val.cell? ⟨w.heap.size, 3, none⟩ = some (.int .u8 (n2 : Int)) := fun z => by
        have := cell_b (K0.out.later z.property K0.out.lt) ha 2 (by omega)
        rwa [hn2] at this
      have hb2 : n2 < 256 := by rw [← hn2]; exact (a.b.getD 2 0).toNat_lt
      have HB2 : Hid (n2 < 65536) := Lib.hid (by omega)
      obtain ⟨n3, hn3⟩ : ∃ n, (a.b.getD 3 0).toNat = n := ⟨_, rfl⟩
      have c3 : ∀ z : Later W2, z.val.cell? ⟨w.heap.size, 4, none⟩ = some (.int .u8 (n3 : Int)) := fun z => by
        have := cell_b (K0.out.later z.property K0.out.lt) ha 3 (by omega)
        rwa [hn3] at this
      have hb3 : n3 < 256 := by rw [← hn3]; exact (a.b.getD 3 0).toNat_lt
      have HB3 : Hid (n3 < 65536) := Lib.hid (by omega)
      obtain ⟨t0, ht0⟩ : ∃ t, textB 10 n0 = t := ⟨_, rfl⟩
      have zt0 : (S t0).size ≤ 300 := by rw [S_size, ← ht0]; have := textB_le 10 n0; omega
      obtain ⟨t1, ht1⟩ : ∃ t, textB 10 n1 = t := ⟨_, rfl⟩
      have zt1 : (S t1).size ≤ 300 := by rw [S_size, ← ht1]; have := textB_le 10 n1; omega
      obtain ⟨t2, ht2⟩ : ∃ t, textB 10 n2 = t := ⟨_, rfl⟩
      have zt2 : (S t2).size ≤ 300 := by rw [S_size, ← ht2]; have := textB_le 10 n2; omega
      obtain ⟨t3, ht3⟩ : ∃ t, textB 10 n3 = t := ⟨_, rfl⟩
      have zt3 : (S t3).size ≤ 300 := by rw [S_size, ← ht3]; have := textB_le 10 n3; omega
      obtain ⟨l0, hl0⟩ : ∃ l, t0 ++ [46] = l := ⟨_, rfl⟩
      have hs0 : S t0 ++ ⟨#[46]⟩ = S l0 := by rw [← hl0]; exact S_app t0 [46]
      have zs0 : (S l0).size ≤ 400 := by rw [← hs0, ByteArray.size_append]; have : (ByteArray.mk #[46]).size = 1 := rfl; omega
      obtain ⟨l1, hl1⟩ : ∃ l, l0 ++ t1 = l := ⟨_, rfl⟩
      have hs1 : S l0 ++ S t1 = S l1 := by rw [← hl1]; exact S_app l0 t1
      have zs1 : (S l1).size ≤ 800 := by rw [← hs1, ByteArray.size_append]; omega
      obtain ⟨l2, hl2⟩ : ∃ l, l1 ++ [46] = l := ⟨_, rfl⟩
      have hs2 : S l1 ++ ⟨#[46]⟩ = S l2 := by rw [← hl2]; exact S_app l1 [46]
      have zs2 : (S l2).size ≤ 1200 := by rw [← hs2, ByteArray.size_append]; have : (ByteArray.mk #[46]).size = 1 := rfl; omega
      obtain ⟨l3, hl3⟩ : ∃ l, l2 ++ t2 = l := ⟨_, rfl⟩
      have hs3 : S l2 ++ S t2 = S l3 := by rw [← hl3]; exact S_app l2 t2
      have zs3 : (S l3).size ≤ 1600 := by rw [← hs3, ByteArray.size_append]; omega
      obtain ⟨l4, hl4⟩ : ∃ l, l3 ++ [46] = l := ⟨_, rfl⟩
      have hs4 : S l3 ++ ⟨#[46]⟩ = S l4 := by rw [← hl4]; exact S_app l3 [46]
      have zs4 : (S l4).size ≤ 2000 := by rw [← hs4, ByteArray.size_append]; have : (ByteArray.mk #[46]).size = 1 := rfl; omega
      obtain ⟨l5, hl5⟩ : ∃ l, l4 ++ t3 = l := ⟨_, rfl⟩
      have hs5 : S l4 ++ S t3 = S l5 := by rw [← hl5]; exact S_app l4 t3
      have zs5 : (S l5).size ≤ 2400 := by rw [← hs5, ByteArray.size_append]; omega
      have HX : Hid (print4 a.b = l5) := Lib.hid (by rw [print4_out, hn0, hn1, hn2, hn3, ht0, ht1, ht2, ht3, hl0, hl1, hl2, hl3, hl4, hl5])
      clear hn0 hn1 hn2 hn3
      have HT0 := Lib.hid ht0
      have HT1 := Lib.hid ht1
      have HT2 := Lib.hid ht2
      have HT3 := Lib.hid ht3
      clear hl0 hl1 hl2 hl3 hl4 hl5
      go_wp2
      refine region_later (by kernel_rfl) (by kernel_rfl) ?_
      repeat (first | go_big_quiet_skip | (go_big_quiet_want; first | (go_big_quiet_op; first | go_big_quiet_on | go_big_quiet_call ((go_at_call 32; first | (with_reducible exact calls_later (text_calls 10 n0 (.inl rfl) HB0.out _)) | (with_reducible exact calls_later (text_calls 10 n1 (.inl rfl) HB1.out _)) | (with_reducible exact calls_later (text_calls 10 n2 (.inl rfl) HB2.out _)) | (with_reducible exact calls_later (text_calls 10 n3 (.inl rfl) HB3.out _)))))))
      refine wpQuiet_nil ?_
      intro z hz
      have HBz := Lib.hid (BW2.out.trans (hz.mono BW2.out.size))
      clear hz
      go_wp2
      go_ret
      exact ⟨by rw [HR.out, HX.out]; rfl, HBz.out⟩
    · have HR : Hid (printV a = print6 a.b) := Lib.hid (by unfold printV; rw [hq, if_pos rfl, if_neg h4])
      have e4 : (a.v == 4) = false := beq_eq_false_iff_ne.2 h4
      clear hq h4
      go_enter Tryd.func17, Tryd.ntmps17
      go_upto_region 1 with fail
      refine wp_named fun W hW => ?_
      obtain ⟨bk, BW, sW⟩ := box1 hW
      clear hW
      go_upto_region 2 with (first | (refine wpList_load_blk rfl 24 _ rfl w.heap.size 24 _ _ rfl bk.out Tryd.underlying24 rfl (by as_aux_lemma => exact szc ‹_›) ?_) | (go_at_call 13; refine (rvalid_calls a ha _).mono ?_; rintro e W2 ⟨rfl, hB⟩))
      have BW2 := keep BW hB
      have K2 := Lib.hid (bk.out.later hB (by have := sW.out; omega))
      have HW2 : Hid (w.heap.size < W2.heap.size) := Lib.hid K2.out.lt
      clear hB
      rw [HV.out]
      have cv := cell_v K2.out
      go_wp2
      clear cv
      go_loopw [4] (fun u wr => ∃ L : Nat, u = .int .i64 L ∧ 1 ≤ L ∧ L ≤ 8 ∧ (∀ j, j < 8 → runV a.b j ≤ L) ∧ Below W2.heap.size W2 wr) (fun u _ => (intOf u).toNat)
      case atStart => exact ⟨8, rfl, by omega, by omega, (fun j hj => by have := runV_le8 a.b j; omega), Below.refl _ _⟩
      case round =>
        obtain ⟨L, rfl, hL1, hL8, hm, hb⟩ := hrel
        have HM := Lib.hid hm
        have HB := Lib.hid hb
        have K0 := Lib.hid (K2.out.later HB.out HW2.out)
        clear hm hb
        by_cases hlt : 2 ≤ L
        · have e0 : decide ((2 : Int) ≤ L) = true := decide_eq_true (by omega)
          have e0' : decide (2 ≤ L) = true := decide_eq_true (by omega)
          obtain ⟨wo, rfl⟩ : ∃ wo, wo = wr := ⟨_, rfl⟩
          have HL := Lib.hid hlt
          clear hlt
          go_wp2
          go_loopw [5] (fun u wr => ∃ i : Nat, u = .int .i64 i ∧ i + L ≤ 9 ∧ (∀ j, j < i → runV a.b j < L) ∧ Below W2.heap.size W2 wr) (fun u _ => 9 - (intOf u).toNat)
          case atStart => exact ⟨0, rfl, by omega, (fun j hj => by omega), HB.out⟩
          case round =>
            obtain ⟨i, rfl, hi9, hj, hb⟩ := hrel
            have HJ := Lib.hid hj
            have HB := Lib.hid hb
            have K0 := Lib.hid (K2.out.later HB.out HW2.out)
            clear hj hb
            by_cases hle : i + L ≤ 8
            · have e1 : decide ((i : Int) + L ≤ 8) = true := decide_eq_true (by omega)
              have e1' : decide (i + L ≤ 8) = true := decide_eq_true (by omega)
              have hi8 : i ≤ 8 := by omega
              obtain ⟨r, hr⟩ : ∃ r, runV a.b i = r := ⟨_, rfl⟩
              have HRV := Lib.hid hr
              have hr8 : r ≤ 8 := by rw [← hr]; have := runV_le8 a.b i; omega
              by_cases hrl : L ≤ r
              · have e2 : decide ((L : Int) ≤ r) = true := decide_eq_true (by omega)
                have e2' : decide (L ≤ r) = true := decide_eq_true (by omega)
                have HP : Hid (print6 a.b = joinG a.b 0 i ++ [58, 58] ++ joinG a.b (i + L) (8 - (i + L))) := Lib.hid (by
                  have hrL : runV a.b i = L := by have := HM.out i (by omega); omega
                  have hbest := best_some HL.out (show i < 8 by omega) hrL HM.out HJ.out
                  unfold print6
                  rw [hbest]
                  exact if_neg (by have := HL.out; omega))
                have HA1 : Hid (0 + i ≤ 8) := Lib.hid (by omega)
                have HA2 : Hid ((0 : Int) = ((0 : Nat) : Int)) := Lib.hid rfl
                have HA3 : Hid ((i : Int) = ((0 + i : Nat) : Int)) := Lib.hid (by omega)
                have HB1 : Hid (i + L + (8 - (i + L)) ≤ 8) := Lib.hid (by omega)
                have HB2 : Hid ((i : Int) + L = ((i + L : Nat) : Int)) := Lib.hid (by omega)
                have HB3 : Hid ((8 : Int) = ((i + L + (8 - (i + L)) : Nat) : Int)) := Lib.hid (by omega)
                obtain ⟨p, hp⟩ : ∃ p, joinG a.b 0 i = p := ⟨_, rfl⟩
                obtain ⟨p1, hp1⟩ : ∃ p1, p ++ [58, 58] = p1 := ⟨_, rfl⟩
                obtain ⟨p2, hp2⟩ : ∃ p2, joinG a.b (i + L) (8 - (i + L)) = p2 := ⟨_, rfl⟩
                obtain ⟨p3, hp3⟩ : ∃ p3, p1 ++ p2 = p3 := ⟨_, rfl⟩
                have z0 : (S p).size ≤ 40 := by rw [S_size, ← hp]; have := joinG_len a.b 0 i; omega
                have s1 : S p ++ ⟨#[58, 58]⟩ = S p1 := by rw [← hp1]; exact S_app p [58, 58]
                have z1 : (S p1).size ≤ 50 := by rw [← s1, ByteArray.size_append]; have : (ByteArray.mk #[58, 58]).size = 2 := rfl; omega
                have z2 : (S p2).size ≤ 40 := by rw [S_size, ← hp2]; have := joinG_len a.b (i + L) (8 - (i + L)); omega
                have s3 : S p1 ++ S p2 = S p3 := by rw [← hp3]; exact S_app p1 p2
                have HX : Hid (print6 a.b = p3) := Lib.hid (by rw [HP.out, hp, hp1, hp2, hp3])
                clear hp1 hp3 hr hrl hle HP
                go_upto_region 13 with (first | (refine wpList_load_blk rfl 24 _ rfl w.heap.size 24 _ _ rfl K0.out Tryd.underlying24 rfl (by as_aux_lemma => exact szc ‹_›) ?_) | (go_at_call 33; refine (run_calls a ha i hi8 _).mono ?_; rintro e W4 ⟨rfl, hB4⟩))
                have BW4 := Lib.hid (HB.out.trans (hB4.mono HB.out.size))
                have K0 := Lib.hid (K2.out.later BW4.out HW2.out)
                clear hB4
                rw [HRV.out]
                go_wp2
                refine region_later (by kernel_rfl) (by kernel_rfl) ?_
                repeat (first | go_big_quiet_skip | (go_big_quiet_want; first | (refine quiet_load 24 _ rfl w.heap.size 24 _ _ rfl K0.out Tryd.underlying24 rfl (szc ha) ?_; simp only [Act.put, List.setIfInBounds_toArray, List.set_cons_zero, List.set_cons_succ]; go_big_quiet_on) | (go_big_quiet_op; first | go_big_quiet_on | go_big_quiet_call ((go_at_call 34; first | (with_reducible exact calls_later (some_is ha HA1.out HA2.out HA3.out _)) | (with_reducible exact calls_later (some_is ha HB1.out HB2.out HB3.out _)))))))
                refine wpQuiet_nil ?_
                intro z hz
                have HBz := Lib.hid (BW4.out.trans (hz.mono BW4.out.size))
                clear hz
                go_wp2
                go_ret
                exact ⟨by rw [HR.out, HX.out]; rfl, (keep BW2 HBz.out).out⟩
              · have e2 : decide ((L : Int) ≤ r) = false := decide_eq_false (by omega)
                have e2' : decide (L ≤ r) = false := decide_eq_false (by omega)
                have HN : Hid (runV a.b i < L) := Lib.hid (by omega)
                have HLE := Lib.hid hle
                clear hr hrl hle
                go_upto_region 13 with (first | (refine wpList_load_blk rfl 24 _ rfl w.heap.size 24 _ _ rfl K0.out Tryd.underlying24 rfl (by as_aux_lemma => exact szc ‹_›) ?_) | (go_at_call 33; refine (run_calls a ha i hi8 _).mono ?_; rintro e W4 ⟨rfl, hB4⟩))
                have BW4 := Lib.hid (HB.out.trans (hB4.mono HB.out.size))
                clear hB4
                rw [HRV.out]
                go_wp2
                exact ⟨⟨i + 1, by go_num, by have := HLE.out; omega, (fun j h => by rcases Nat.lt_or_ge j i with h1 | h1; exact HJ.out j h1; rw [show j = i by omega]; exact HN.out), BW4.out⟩, by simp [intOf]; omega⟩
            · have e1 : decide ((i : Int) + L ≤ 8) = false := decide_eq_false (by omega)
              have e1' : decide (i + L ≤ 8) = false := decide_eq_false (by omega)
              have HE : Hid (i + L = 9) := Lib.hid (by omega)
              clear hle
              go_wp2
              exact ⟨⟨L - 1, by have := HL.out; go_num, by have := HL.out; omega, by omega, (fun j h => by
                rcases Nat.lt_or_ge j i with h1 | h1
                · have := HJ.out j h1; omega
                · have := runV_le8 a.b j; have := HE.out; omega), HB.out⟩, by have := HL.out; simp [intOf]; omega⟩
        · obtain rfl : L = 1 := by omega
          have HX : Hid (print6 a.b = joinG a.b 0 8) := Lib.hid (by
            have := best_none HM.out
            unfold print6
            rw [this]
            exact if_pos rfl)
          have HA1 : Hid (0 + 8 ≤ 8) := Lib.hid (by omega)
          have HA2 : Hid ((0 : Int) = ((0 : Nat) : Int)) := Lib.hid rfl
          have HA3 : Hid ((8 : Int) = ((0 + 8 : Nat) : Int)) := Lib.hid (by omega)
          clear hlt
          go_wp2_with (first | (refine wpList_load_blk rfl 24 _ rfl w.heap.size 24 _ _ rfl K0.out Tryd.underlying24 rfl (by as_aux_lemma => exact szc ‹_›) ?_) | (go_at_call 34; refine (some_is ha HA1.out HA2.out HA3.out _).mono ?_; rintro e W4 ⟨rfl, hB4⟩))
          go_ret
          exact ⟨by rw [HR.out, HX.out]; rfl, (keep BW2 (HB.out.trans (hB4.mono HB.out.size))).out⟩
end Go.Proofs.YtakdcndkpipfbaaDoor.Ad
