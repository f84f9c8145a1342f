/- Contract of the reference's Mask. Conditions: an address has sixteen bytes. -/
import Derived.Test.YtpaplobjmmpliaaDoorAm
import Derived.Test.YtpaplobjmmpliaaDoorBq
namespace Go.Proofs.YtpaplobjmmpliaaDoor.Ad
set_option linter.unusedVariables false
set_option linter.unusedSimpArgs false
open Go.RowKit W
theorem keep_bit : ∀ (k : Fin 8) (x : Fin 256), Go.bits .or .u8 ((x.val / 2 ^ (8 - k.val) * 2 ^ (8 - k.val) : Nat) : Int) (Go.bits .and .u8 ((x.val : Int) / 2 ^ (7 - k.val)) 1 * 2 ^ (7 - k.val) % 256) = ((x.val / 2 ^ (8 - (k.val + 1)) * 2 ^ (8 - (k.val + 1)) : Nat) : Int) := by decide +kernel
theorem keepB_nat (x : UInt8) (k : Nat) : (keepB x k).toNat = x.toNat / 2 ^ (8 - k) * 2 ^ (8 - k) := by
  have h2 : x.toNat / 2 ^ (8 - k) * 2 ^ (8 - k) ≤ x.toNat := Nat.div_mul_le_self _ _
  have := x.toNat_lt
  unfold keepB
  rw [UInt8.toNat_ofNat', Nat.mod_eq_of_lt (by omega)]
theorem mask_get (l : List UInt8) (n i : Nat) (hi : i < 16) (hl : l.length = 16) : (maskB l n).getD i 0 = keepB (l.getD i 0) (min 8 (n - 8 * i)) := by
  unfold maskB partB
  rw [List.getD_eq_getElem?_getD, List.getD_eq_getElem?_getD, List.getElem?_mapIdx, List.getElem?_eq_getElem (by omega)]
  simp [hi]
theorem mask_len (l : List UInt8) (n : Nat) : (maskB l n).length = l.length := part_len l n 16
theorem keepB_zero (x : UInt8) : keepB x 0 = 0 := UInt8.toNat_inj.1 (by
  rw [keepB_nat]; have := x.toNat_lt; rw [Nat.div_eq_of_lt (by simpa using this)]; rfl)
/-- One bit more. -/
theorem mask_more (l : List UInt8) (n : Nat) (hl : l.length = 16) (hn : n < 128) : (maskB l n).set (n / 8) (keepB (l.getD (n / 8) 0) (n % 8 + 1)) = maskB l (n + 1) := by
  refine ext16 (by simp [mask_len, hl]) (by rw [mask_len, hl]) fun i hi => ?_
  rw [mask_get _ _ _ hi hl, List.getD_eq_getElem?_getD, List.getElem?_set]
  by_cases h : n / 8 = i
  · subst h
    rw [if_pos rfl, if_pos (by rw [mask_len]; omega), show min 8 (n + 1 - 8 * (n / 8)) = n % 8 + 1 by omega]; rfl
  · rw [if_neg h, ← List.getD_eq_getElem?_getD, mask_get _ _ _ hi hl]
    rcases Nat.lt_or_gt_of_ne h with h | h
    · rw [show min 8 (n + 1 - 8 * i) = min 8 (n - 8 * i) by omega]
    · rw [show min 8 (n + 1 - 8 * i) = min 8 (n - 8 * i) by omega]
theorem mask_none (l : List UInt8) (hl : l.length = 16) : maskB l 0 = zeros := ext16 (by rw [mask_len, hl]) rfl fun i hi => by
  rw [mask_get _ _ _ hi hl, show min 8 (0 - 8 * i) = 0 by omega, keepB_zero]
  have : ∀ j : Fin 16, (0 : UInt8) = zeros.getD j.val 0 := by decide
  exact this ⟨i, hi⟩
theorem rmask_byte {a : Addr} (n : Nat) (y : Int) (hy : y = Go.bits .or .u8 ((keepB (a.b.getD (n / 8) 0) (n % 8)).toNat : Int) (a.bitAt n * 2 ^ (7 - n % 8) % 256)) : y = ((keepB (a.b.getD (n / 8) 0) (n % 8 + 1)).toNat : Int) := by
  rw [hy, keepB_nat, keepB_nat]
  exact keep_bit ⟨n % 8, Nat.mod_lt _ (by omega)⟩ ⟨(a.b.getD (n / 8) 0).toNat, UInt8.toNat_lt _⟩
theorem rmask_round {a : Addr} {w wr z : World} {n : Nat} {y : Int} (ha : a.ok) (hn : n < 128) (hy : y = Go.bits .or .u8 ((keepB (a.b.getD (n / 8) 0) (n % 8)).toNat : Int) (a.bitAt n * 2 ^ (7 - n % 8) % 256))
    {g : Nat} (hg : w.heap.size + 2 ≤ g) (r1 : Hid (Blk wr g 35 (Addr.cells ⟨a.v, maskB a.b n⟩))) (r2 : Hid (Blk wr (w.heap.size + 1) 35 zeroAd.cells)) (r0 : Hid (Blk wr w.heap.size 35 a.cells)) (r3 : Hid (Below w.heap.size w wr)) (r4 : Hid (g + 1 ≤ wr.heap.size))
    (hz : Below wr.heap.size wr z) :
    Blk (z.setCell ⟨g, 1 + n / 8, none⟩ (.int .u8 y)) g 35 (Addr.cells ⟨a.v, maskB a.b (n + 1)⟩) ∧ Blk (z.setCell ⟨g, 1 + n / 8, none⟩ (.int .u8 y)) (w.heap.size + 1) 35 zeroAd.cells ∧
      Blk (z.setCell ⟨g, 1 + n / 8, none⟩ (.int .u8 y)) w.heap.size 35 a.cells ∧
      Below w.heap.size w (z.setCell ⟨g, 1 + n / 8, none⟩ (.int .u8 y)) ∧ g + 1 ≤ (z.setCell ⟨g, 1 + n / 8, none⟩ (.int .u8 y)).heap.size := by
  have hy' := rmask_byte n y hy
  have h4 := r4.out
  have q1 := r1.out.later hz (by omega)
  have q2 := r2.out.later hz (by omega)
  have q0 := r0.out.later hz (by omega)
  refine ⟨?_, q2.far (by simp; omega) _, q0.far (by simp; omega) _, ((r3.out.trans (hz.mono (by omega))).setCell (by simp; omega) _), by have := hz.size; simp; omega⟩
  have := q1.set_ (1 + n / 8) (.int .u8 y)
  rw [hy', cells_set, mask_more _ _ ha hn] at this
  rw [hy']
  exact this
theorem width_nb {a : Addr} (h : a.valid = true) : a.nb = a.width := by
  unfold Addr.valid at h
  unfold Addr.width Addr.nb at *
  by_cases h4 : a.v = 4
  · rw [if_pos h4] at h ⊢
    by_cases hz : (a.b.drop 4).all (· == 0) = true
    · rw [if_pos hz, if_pos h4]
    · rw [if_neg hz] at h; cases h
  · rw [if_neg h4] at h ⊢
    by_cases h6 : a.v = 6
    · rw [if_pos h6, if_neg h4]
    · rw [if_neg h6] at h; cases h
theorem nb_valid {a : Addr} (h : a.valid = true) : ¬ a.nb = 0 := fun h0 => by unfold Addr.valid at h; rw [h0] at h; cases h
theorem nb_invalid {a : Addr} (h : ¬ a.valid = true) : a.nb = 0 := by
  unfold Addr.valid at h
  have : 0 ≤ a.nb := by unfold Addr.nb; split; split; omega; omega; split; omega; omega
  have : ¬ 0 < a.nb := fun h' => h (decide_eq_true h')
  omega
set_option maxRecDepth 100000 in
set_option maxHeartbeats 2000000 in
theorem rmask_calls (a : Addr) (ha : a.ok) (n : Int) (w : World) : Calls Tryd.prog 48 #[.agg a.cells, .int .i64 n] w fun e w' => e = .returned (.tuple #[.agg (a.mask n).cells, .int .i64 (a.maskE n)]) ∧ Below w.heap.size w w' := by
  by_cases h1 : a.valid = true
  · have HV := Lib.hid h1
    have hw := width_nb h1
    have hnb : ¬ a.nb = 0 := nb_valid h1
    by_cases h2 : n < 0
    · have e2 : decide (n < 0) = true := decide_eq_true h2
      have HE : Hid (a.maskE n = 1) := Lib.hid (by unfold Addr.maskE; rw [if_neg hnb, if_pos h2])
      have HM : Hid (a.mask n = zeroAd) := Lib.hid (by unfold Addr.mask; rw [HE.out]; rfl)
      clear h1 h2 hw hnb
      go_enter Tryd.func48, Tryd.ntmps48
      go_upto_region 1 with fail
      refine wp_named fun W hW => ?_
      obtain ⟨bk, bk2, BW, sW⟩ := box2 (cs' := zeroAd.cells) hW
      clear hW
      go_upto_region 3 with (first | (refine wpList_load_blk rfl 35 _ rfl w.heap.size 35 _ _ rfl bk1.out Tryd.underlying35 rfl (by as_aux_lemma => exact szc ‹_›) ?_) | (refine wpList_load_blk rfl 35 _ rfl w.heap.size 35 _ _ rfl bk.out Tryd.underlying35 rfl (by as_aux_lemma => exact szc ‹_›) ?_) | (go_at_call 29; refine (rvalid_calls a ha _).mono ?_; rintro e W1 ⟨rfl, hB⟩; rw [HV.out]; have bk1 := Lib.hid (bk.out.later hB (by rw [sW.out]; omega)); have bz1 := Lib.hid (bk2.out.later hB (by rw [sW.out]; omega)); have BW1 := keep BW hB; have sW1 := Lib.hid (Nat.le_trans (Nat.le_of_eq sW.out.symm) hB.size); clear hB) | (go_at_call 47; refine (rbits_calls a ha _).mono ?_; rintro e W3 ⟨rfl, hB⟩; have bk3 := Lib.hid (bk1.out.later hB (by have := sW1.out; omega)); have bz3 := Lib.hid (bz1.out.later hB (by have := sW1.out; omega)); have BW3 := keep BW1 hB; have sW3 := Lib.hid (Nat.le_trans sW1.out hB.size); clear hB))
      have z0 := zero_ok
      go_wp2_with (refine wpList_store_blk rfl 35 _ _ rfl (w.heap.size + 1) 35 zeroAd.cells zeroAd.cells rfl rfl bz1.out rfl (szc zero_ok) (one_cells _) ?_; intro W2 P2)
      refine bodyPost_ret (v := .tuple #[.agg zeroAd.cells, .int .i64 1]) (by exact results_cell2 (fn := Tryd.f48) rfl _ _ (w.heap.size + 1) 35 zeroAd.cells _ rfl P2.blk Tryd.underlying35 rfl (szc zero_ok)) rfl ⟨by rw [HM.out, HE.out], ?_⟩
      exact P2.below BW1.out (by omega) (by have := sW1.out; omega)
    · have e2 : decide (n < 0) = false := decide_eq_false h2
      by_cases h3 : a.width < n
      · have e3 : decide (a.width < n) = true := decide_eq_true h3
        have HE : Hid (a.maskE n = 1) := Lib.hid (by unfold Addr.maskE; rw [if_neg hnb, if_neg h2, if_pos (by omega)])
        have HM : Hid (a.mask n = zeroAd) := Lib.hid (by unfold Addr.mask; rw [HE.out]; rfl)
        clear h1 h2 h3 hw hnb
        go_enter Tryd.func48, Tryd.ntmps48
        go_upto_region 1 with fail
        refine wp_named fun W hW => ?_
        obtain ⟨bk, bk2, BW, sW⟩ := box2 (cs' := zeroAd.cells) hW
        clear hW
        go_upto_region 3 with (first | (refine wpList_load_blk rfl 35 _ rfl w.heap.size 35 _ _ rfl bk1.out Tryd.underlying35 rfl (by as_aux_lemma => exact szc ‹_›) ?_) | (refine wpList_load_blk rfl 35 _ rfl w.heap.size 35 _ _ rfl bk.out Tryd.underlying35 rfl (by as_aux_lemma => exact szc ‹_›) ?_) | (go_at_call 29; refine (rvalid_calls a ha _).mono ?_; rintro e W1 ⟨rfl, hB⟩; rw [HV.out]; have bk1 := Lib.hid (bk.out.later hB (by rw [sW.out]; omega)); have bz1 := Lib.hid (bk2.out.later hB (by rw [sW.out]; omega)); have BW1 := keep BW hB; have sW1 := Lib.hid (Nat.le_trans (Nat.le_of_eq sW.out.symm) hB.size); clear hB) | (go_at_call 47; refine (rbits_calls a ha _).mono ?_; rintro e W3 ⟨rfl, hB⟩; have bk3 := Lib.hid (bk1.out.later hB (by have := sW1.out; omega)); have bz3 := Lib.hid (bz1.out.later hB (by have := sW1.out; omega)); have BW3 := keep BW1 hB; have sW3 := Lib.hid (Nat.le_trans sW1.out hB.size); clear hB))
        have z0 := zero_ok
        go_wp2_with (refine wpList_store_blk rfl 35 _ _ rfl (w.heap.size + 1) 35 zeroAd.cells zeroAd.cells rfl rfl bz3.out rfl (szc zero_ok) (one_cells _) ?_; intro W2 P2)
        refine bodyPost_ret (v := .tuple #[.agg zeroAd.cells, .int .i64 1]) (by exact results_cell2 (fn := Tryd.f48) rfl _ _ (w.heap.size + 1) 35 zeroAd.cells _ rfl P2.blk Tryd.underlying35 rfl (szc zero_ok)) rfl ⟨by rw [HM.out, HE.out], ?_⟩
        exact P2.below BW3.out (by omega) (by have := sW3.out; omega)
      · have e3 : decide (a.width < n) = false := decide_eq_false h3
        have HE : Hid (a.maskE n = 0) := Lib.hid (by unfold Addr.maskE; rw [if_neg hnb, if_neg h2, if_neg (by omega)])
        have hn : n ≤ 128 := by
          have : a.width ≤ 128 := by unfold Addr.width; split; omega; omega
          omega
        obtain ⟨m, rfl⟩ := Int.eq_ofNat_of_zero_le (show 0 ≤ n by omega)
        have hm : m ≤ 128 := by omega
        have HM : Hid (a.mask m = ⟨a.v, maskB a.b m⟩) := Lib.hid (by unfold Addr.mask; rw [if_pos HE.out]; rfl)
        have hB0 : Hid (Addr.cells ⟨a.v, maskB a.b 0⟩ = Addr.cells ⟨a.v, zeros⟩) := Lib.hid (by rw [mask_none _ ha])
        clear h1 h2 h3 hn hw hnb
        go_enter Tryd.func48, Tryd.ntmps48
        go_upto_region 1 with fail
        refine wp_named fun W hW => ?_
        obtain ⟨bk, bk2, BW, sW⟩ := box2 (cs' := zeroAd.cells) hW
        clear hW
        go_upto_region 4 with (first | (refine wpList_load_blk rfl 35 _ rfl w.heap.size 35 _ _ rfl bk1.out Tryd.underlying35 rfl (by as_aux_lemma => exact szc ‹_›) ?_) | (refine wpList_load_blk rfl 35 _ rfl w.heap.size 35 _ _ rfl bk.out Tryd.underlying35 rfl (by as_aux_lemma => exact szc ‹_›) ?_) | (go_at_call 29; refine (rvalid_calls a ha _).mono ?_; rintro e W1 ⟨rfl, hB⟩; rw [HV.out]; have bk1 := Lib.hid (bk.out.later hB (by rw [sW.out]; omega)); have bz1 := Lib.hid (bk2.out.later hB (by rw [sW.out]; omega)); have BW1 := keep BW hB; have sW1 := Lib.hid (Nat.le_trans (Nat.le_of_eq sW.out.symm) hB.size); clear hB) | (go_at_call 47; refine (rbits_calls a ha _).mono ?_; rintro e W3 ⟨rfl, hB⟩; have bk3 := Lib.hid (bk1.out.later hB (by have := sW1.out; omega)); have bz3 := Lib.hid (bz1.out.later hB (by have := sW1.out; omega)); have BW3 := keep BW1 hB; have sW3 := Lib.hid (Nat.le_trans sW1.out hB.size); clear hB))
        have b0 := cell_v bk3.out
        go_upto_region 5 with (refine wpList_store_blk rfl 35 _ _ rfl W3.heap.size 35 zeroAd.cells (Addr.cells ⟨a.v, zeros⟩) rfl rfl (Blk.new _ _ _) rfl (szc (show Addr.ok ⟨a.v, zeros⟩ from rfl)) (one_cells _) ?_; intro W4 P4)
        have h40 : Addr.ok ⟨a.v, zeros⟩ := rfl
        have hW := P4.size
        have bk4 := Lib.hid (P4.far (bk3.out.alloc _) (by have := sW3.out; omega))
        have bz4 := Lib.hid (P4.far (bz3.out.alloc _) (by have := sW3.out; omega))
        have BW4 := Lib.hid (P4.below (B := w.heap.size) (BW3.out.alloc (by have := sW3.out; omega) _) (by have := sW3.out; omega) (by have := sW3.out; simp; omega))
        have bo4 : Hid (Blk W4 W3.heap.size 35 (Addr.cells ⟨a.v, maskB a.b 0⟩)) := Lib.hid (by rw [hB0.out]; exact P4.blk)
        have sW4 : Hid (W3.heap.size + 1 ≤ W4.heap.size) := Lib.hid (by simpa using hW)
        clear P4 hW hB0
        go_wp2
        go_loopw [8] (fun i wr => ∃ k : Nat, k ≤ m ∧ i = .int .i64 k ∧ Blk wr W3.heap.size 35 (Addr.cells ⟨a.v, maskB a.b k⟩) ∧ Blk wr (w.heap.size + 1) 35 zeroAd.cells ∧ Blk wr w.heap.size 35 a.cells ∧ Below w.heap.size w wr ∧ W3.heap.size + 1 ≤ wr.heap.size) (fun i _ => m - (intOf i).toNat)
        case atStart => exact ⟨0, by omega, rfl, bo4.out, bz4.out, bk4.out, BW4.out, sW4.out⟩
        case round =>
          obtain ⟨k, hk, rfl, r1, r2, r0, r3, r4⟩ := hrel
          have R1 := Lib.hid r1
          have R2 := Lib.hid r2
          have R0 := Lib.hid r0
          have R3 := Lib.hid r3
          have R4 := Lib.hid r4
          clear r1 r2 r0 r3 r4 bk1 bz1 BW1 sW1 bk bk2 BW sW bk3 bz3 BW3 bo4 bz4 bk4 BW4 sW4 b0
          by_cases hltm : k < m
          · have hlt : k < 128 := by omega
            have h8 : k / 8 < 16 := by omega
            have hm8 : k % 8 < 8 := Nat.mod_lt _ (by omega)
            have hp : Addr.ok ⟨a.v, maskB a.b k⟩ := by unfold Addr.ok; show (maskB a.b k).length = 16; rw [mask_len]; exact ha
            have hget : (maskB a.b k).getD (k / 8) 0 = keepB (a.b.getD (k / 8) 0) (k % 8) := by rw [mask_get _ _ _ h8 ha, show min 8 (k - 8 * (k / 8)) = k % 8 by omega]
            have hc : ∀ x : Later wr, x.val.cell? ⟨W3.heap.size, 1 + k / 8, none⟩ = some (.int .u8 (keepB (a.b.getD (k / 8) 0) (k % 8)).toNat) := fun x => by
              have := cell_b R1.out hp (k / 8) h8
              rw [show (Addr.mk a.v (maskB a.b k)).b = maskB a.b k from rfl, hget] at this
              exact Later.cell this x
            obtain ⟨bx, hbx⟩ : ∃ bx, keepB (a.b.getD (k / 8) 0) (k % 8) = bx := ⟨_, rfl⟩
            rw [hbx] at hc
            have HBX := Lib.hid hbx
            clear hget hp hbx
            go_wp2
            refine region_later_tail 17 (by kernel_rfl) (by kernel_rfl) ?_
            simp only [List.take_succ_cons, List.take_zero, List.drop_succ_cons, List.drop_zero]
            repeat (first | go_big_quiet_skip | (go_big_quiet_want; first | (refine quiet_load 35 _ rfl w.heap.size 35 _ _ rfl R0.out Tryd.underlying35 rfl (szc ha) ?_; simp only [Act.put, List.setIfInBounds_toArray, List.set_cons_zero, List.set_cons_succ]; go_big_quiet_on) | (go_big_quiet_op; first | go_big_quiet_on | go_big_quiet_call ((go_at_call 50; exact calls_later (rbit_calls a ha k hlt _))))))
            refine wpQuiet_nil ?_
            intro z hz
            have hcz : z.cell? ⟨W3.heap.size, 1 + k / 8, none⟩ = some (.int .u8 bx.toNat) := hc ⟨z, hz⟩
            have hfz : z.frozen? ⟨W3.heap.size, 1 + k / 8, none⟩ = false := (R1.out.later hz (by have := R4.out; omega)).frozen _
            have HZ := Lib.hid hz
            clear hc hz
            go_wp2
            refine ⟨⟨k + 1, by omega, by go_num, rmask_round ha hlt (by rw [HBX.out]) sW3.out R1 R2 R0 R3 R4 HZ.out⟩, by simp [intOf]; omega⟩
          · obtain rfl : k = m := by omega
            have hp : Addr.ok ⟨a.v, maskB a.b k⟩ := by unfold Addr.ok; show (maskB a.b k).length = 16; rw [mask_len]; exact ha
            go_wp2_with (first | (refine wpList_load_blk rfl 35 _ rfl W3.heap.size 35 _ _ rfl R1.out Tryd.underlying35 rfl (szc hp) ?_) | (refine wpList_store_blk rfl 35 _ _ rfl (w.heap.size + 1) 35 zeroAd.cells (Addr.cells ⟨a.v, maskB a.b k⟩) rfl rfl R2.out (by rw [csize hp, csize zero_ok]) (szc hp) (one_cells _) ?_; intro W2 P2))
            refine bodyPost_ret (v := .tuple #[.agg (Addr.cells ⟨a.v, maskB a.b k⟩), .int .i64 0]) (by exact results_cell2 (fn := Tryd.f48) rfl _ _ (w.heap.size + 1) 35 _ _ rfl P2.blk Tryd.underlying35 rfl (szc hp)) rfl ⟨by rw [HM.out, HE.out], ?_⟩
            exact P2.below R3.out (by omega) (by have := R4.out; have := sW3.out; omega)
  · have h1' : a.valid = false := by simpa using h1
    have HV := Lib.hid h1'
    have HE : Hid (a.maskE n = 1) := Lib.hid (if_pos (nb_invalid h1))
    have HM : Hid (a.mask n = zeroAd) := Lib.hid (by unfold Addr.mask; rw [HE.out]; rfl)
    clear h1 h1'
    go_enter Tryd.func48, Tryd.ntmps48
    go_upto_region 1 with fail
    refine wp_named fun W hW => ?_
    obtain ⟨bk, bk2, BW, sW⟩ := box2 (cs' := zeroAd.cells) hW
    clear hW
    go_upto_region 3 with (first | (refine wpList_load_blk rfl 35 _ rfl w.heap.size 35 _ _ rfl bk1.out Tryd.underlying35 rfl (by as_aux_lemma => exact szc ‹_›) ?_) | (refine wpList_load_blk rfl 35 _ rfl w.heap.size 35 _ _ rfl bk.out Tryd.underlying35 rfl (by as_aux_lemma => exact szc ‹_›) ?_) | (go_at_call 29; refine (rvalid_calls a ha _).mono ?_; rintro e W1 ⟨rfl, hB⟩; rw [HV.out]; have bk1 := Lib.hid (bk.out.later hB (by rw [sW.out]; omega)); have bz1 := Lib.hid (bk2.out.later hB (by rw [sW.out]; omega)); have BW1 := keep BW hB; have sW1 := Lib.hid (Nat.le_trans (Nat.le_of_eq sW.out.symm) hB.size); clear hB) | (go_at_call 47; refine (rbits_calls a ha _).mono ?_; rintro e W3 ⟨rfl, hB⟩; have bk3 := Lib.hid (bk1.out.later hB (by have := sW1.out; omega)); have bz3 := Lib.hid (bz1.out.later hB (by have := sW1.out; omega)); have BW3 := keep BW1 hB; have sW3 := Lib.hid (Nat.le_trans sW1.out hB.size); clear hB))
    have z0 := zero_ok
    go_wp2_with (refine wpList_store_blk rfl 35 _ _ rfl (w.heap.size + 1) 35 zeroAd.cells zeroAd.cells rfl rfl bz1.out rfl (szc zero_ok) (one_cells _) ?_; intro W2 P2)
    refine bodyPost_ret (v := .tuple #[.agg zeroAd.cells, .int .i64 1]) (by exact results_cell2 (fn := Tryd.f48) rfl _ _ (w.heap.size + 1) 35 zeroAd.cells _ rfl P2.blk Tryd.underlying35 rfl (szc zero_ok)) rfl ⟨by rw [HM.out, HE.out], ?_⟩
    exact P2.below BW1.out (by omega) (by have := sW1.out; omega)
end Go.Proofs.YtpaplobjmmpliaaDoor.Ad
