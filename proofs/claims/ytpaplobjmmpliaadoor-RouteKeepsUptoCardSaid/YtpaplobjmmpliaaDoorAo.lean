/- Contracts of addr.Within, of the reference's Within. Conditions: an address has sixteen bytes. -/
import Derived.Test.YtpaplobjmmpliaaDoorAn
namespace Go.Proofs.YtpaplobjmmpliaaDoor.Ad
set_option linter.unusedVariables false
set_option linter.unusedSimpArgs false
open Go.RowKit W
def Addr.within (a c : Addr) (n : Int) : Bool := decide (a.maskE n = 0 ∧ c.maskE n = 0 ∧ a.mask n = c.mask n)
/-- Behind a call whose result is laid into a new variable. -/
theorem call_store {W W1 W2 : World} {t : TypeId} {cs0 cs : Array Value} (hB : Below W.heap.size W W1) (P2 : Put (W1.alloc (.cells cs0 t)) W2 W1.heap.size t cs) :
    Hid (Below W.heap.size W W2) ∧ Hid (Blk W2 W1.heap.size t cs) ∧ Hid (W1.heap.size + 1 ≤ W2.heap.size) ∧ Hid (W.heap.size ≤ W1.heap.size) :=
  ⟨Lib.hid (P2.below (hB.alloc hB.size _) hB.size (by have := hB.size; simp; omega)), Lib.hid P2.blk, Lib.hid (by have := P2.size; simpa using this), Lib.hid hB.size⟩
set_option maxRecDepth 100000 in
set_option maxHeartbeats 1000000 in
theorem within_calls (a c : Addr) (ha : a.ok) (hc : c.ok) (n : Int) (w : World) : Calls Tryd.prog 28 #[.agg a.cells, .agg c.cells, .int .i64 n] w fun e w' => e = .returned (.bool (a.within c n)) ∧ Below w.heap.size w w' := by
  have hx := mask_ok ha n
  have hy := mask_ok hc n
  have hq := fun W => eql_ad (a.mask n) (c.mask n) hx hy W
  have HR : Hid (a.within c n = (a.maskE n == 0 && c.maskE n == 0 && decide (a.mask n = c.mask n))) := Lib.hid (by unfold Addr.within; rw [Bool.eq_iff_iff]; simp [and_assoc])
  obtain ⟨e1, he1⟩ : ∃ e1, (a.maskE n == 0) = e1 := ⟨_, rfl⟩
  obtain ⟨e2, he2⟩ : ∃ e2, (c.maskE n == 0) = e2 := ⟨_, rfl⟩
  obtain ⟨e3, he3⟩ : ∃ e3, decide (a.mask n = c.mask n) = e3 := ⟨_, rfl⟩
  rw [he1, he2, he3] at HR
  simp only [he3] at hq
  go_enter Tryd.func28, Tryd.ntmps28
  go_upto_region 1 with fail
  refine wp_named fun W hW => ?_
  obtain ⟨bk, bk2, BW, sW⟩ := box2 hW
  clear hW
  go_upto_region 2 with (first | (refine wpList_load_blk rfl 35 _ rfl w.heap.size 35 _ _ rfl bk.out Tryd.underlying35 rfl (by as_aux_lemma => exact szc ‹_›) ?_) | (go_at_call 42; refine (mask_calls a ha n _).mono ?_; rintro e W1 ⟨rfl, hB⟩) | (refine wpList_store_blk rfl 35 _ _ rfl W1.heap.size 35 zeroAd.cells (a.mask n).cells rfl rfl (Blk.new _ _ _) (by rw [csize hx, csize zero_ok]) (szc hx) (one_cells _) ?_; intro W2 P2))
  obtain ⟨B2, bx, s2, s1⟩ := call_store hB P2
  have bk3 := Lib.hid (bk2.out.later B2.out (by rw [sW.out]; omega))
  clear hB P2
  go_upto_region 3 with (first | (refine wpList_load_blk rfl 35 _ rfl (w.heap.size + 1) 35 _ _ rfl bk3.out Tryd.underlying35 rfl (by as_aux_lemma => exact szc ‹_›) ?_) | (go_at_call 42; refine (mask_calls c hc n _).mono ?_; rintro e W3 ⟨rfl, hB⟩) | (refine wpList_store_blk rfl 35 _ _ rfl W3.heap.size 35 zeroAd.cells (c.mask n).cells rfl rfl (Blk.new _ _ _) (by rw [csize hy, csize zero_ok]) (szc hy) (one_cells _) ?_; intro W4 P4))
  obtain ⟨B4, bv, s4, s3⟩ := call_store hB P4
  have bx4 := Lib.hid (bx.out.later B4.out (by have := s2.out; omega))
  have BB := keep (keep BW B2.out) B4.out
  clear hB P4
  have h0 := hx
  have h0' := hy
  cases e1 <;> cases e2 <;> cases e3
  all_goals (
    go_wp2_with (first | (refine wpList_load_blk rfl 35 _ rfl W1.heap.size 35 _ _ rfl bx4.out Tryd.underlying35 rfl (by as_aux_lemma => exact szc ‹_›) ?_) | (refine wpList_load_blk rfl 35 _ rfl W3.heap.size 35 _ _ rfl bv.out Tryd.underlying35 rfl (by as_aux_lemma => exact szc ‹_›) ?_))
    go_ret
    exact ⟨by rw [HR.out]; rfl, BB.out⟩)
theorem keep_bit_at : ∀ (k : Fin 9) (j : Fin 8) (x : Fin 256), j.val < k.val → Go.bits .and .u8 (((x.val / 2 ^ (8 - k.val) * 2 ^ (8 - k.val) : Nat) : Int) / 2 ^ (7 - j.val)) 1 = Go.bits .and .u8 ((x.val : Int) / 2 ^ (7 - j.val)) 1 := by decide +kernel
theorem bit_of_mask {a : Addr} (ha : a.ok) (n j : Nat) (hj : j < n) (hn : n ≤ 128) : Addr.bitAt ⟨a.v, maskB a.b n⟩ j = a.bitAt j := by
  unfold Addr.bitAt
  show Go.bits .and .u8 ((((maskB a.b n).getD (j / 8) 0).toNat : Int) / 2 ^ (7 - j % 8)) 1 = _
  rw [mask_get _ _ _ (by omega) ha, keepB_nat]
  exact keep_bit_at ⟨min 8 (n - 8 * (j / 8)), by omega⟩ ⟨j % 8, Nat.mod_lt _ (by omega)⟩ ⟨_, UInt8.toNat_lt _⟩ (by show j % 8 < min 8 (n - 8 * (j / 8)); omega)
theorem masks_same {a c : Addr} (ha : a.ok) (hc : c.ok) : ∀ n : Nat, n ≤ 128 → (∀ i, i < n → a.bitAt i = c.bitAt i) → maskB a.b n = maskB c.b n
  | 0, _, _ => by rw [mask_none _ ha, mask_none _ hc]
  | n + 1, hn, h => by
    have ih := masks_same ha hc n (by omega) fun i hi => h i (by omega)
    have hb := h n (by omega)
    rw [← mask_more _ _ ha (by omega), ← mask_more _ _ hc (by omega), ih]
    congr 1
    have hg : keepB (a.b.getD (n / 8) 0) (n % 8) = keepB (c.b.getD (n / 8) 0) (n % 8) := by
      have h1 := mask_get a.b n (n / 8) (by omega) ha
      have h2 := mask_get c.b n (n / 8) (by omega) hc
      rw [ih, h2, show min 8 (n - 8 * (n / 8)) = n % 8 by omega] at h1
      exact h1.symm
    have q1 := rmask_byte (a := a) n _ rfl
    have q2 := rmask_byte (a := c) n _ rfl
    rw [hg, hb, q2] at q1
    exact UInt8.toNat_inj.1 (Int.ofNat_inj.1 q1.symm)
theorem bits_same {a c : Addr} (ha : a.ok) (hc : c.ok) (n : Nat) (hn : n ≤ 128) : maskB a.b n = maskB c.b n ↔ ∀ i, i < n → a.bitAt i = c.bitAt i := by
  constructor
  · intro h i hi
    rw [← bit_of_mask ha n i hi hn, ← bit_of_mask hc n i hi hn]
    unfold Addr.bitAt
    show Go.bits .and .u8 ((((maskB a.b n).getD (i / 8) 0).toNat : Int) / 2 ^ (7 - i % 8)) 1 = Go.bits .and .u8 ((((maskB c.b n).getD (i / 8) 0).toNat : Int) / 2 ^ (7 - i % 8)) 1
    rw [h]
  · exact masks_same ha hc n hn
theorem within_inv {a c : Addr} {n : Int} (h : ¬ a.valid = true) : a.within c n = false := by
  unfold Addr.within
  rw [decide_eq_false]
  rintro ⟨h1, _⟩
  unfold Addr.maskE at h1; rw [if_pos (nb_invalid h)] at h1; cases h1
theorem within_inv2 {a c : Addr} {n : Int} (h : ¬ c.valid = true) : a.within c n = false := by
  unfold Addr.within
  rw [decide_eq_false]
  rintro ⟨_, h1, _⟩
  unfold Addr.maskE at h1; rw [if_pos (nb_invalid h)] at h1; cases h1
theorem within_v {a c : Addr} {n : Int} (h : ¬ a.v = c.v) : a.within c n = false := by
  unfold Addr.within
  rw [decide_eq_false]
  rintro ⟨h1, h2, h3⟩
  unfold Addr.mask at h3
  rw [if_pos h1, if_pos h2] at h3
  have h4 := congrArg Addr.v h3
  exact h h4
theorem within_neg {a c : Addr} {n : Int} (h : n < 0) : a.within c n = false := by
  unfold Addr.within
  rw [decide_eq_false]
  rintro ⟨h1, _⟩
  unfold Addr.maskE at h1
  by_cases h0 : a.nb = 0
  · rw [if_pos h0] at h1; cases h1
  · rw [if_neg h0, if_pos h] at h1; cases h1
theorem within_big {a c : Addr} {n : Int} (hv : a.valid = true) (h : a.width < n) : a.within c n = false := by
  unfold Addr.within
  rw [decide_eq_false]
  rintro ⟨h1, _⟩
  unfold Addr.maskE at h1
  rw [if_neg (nb_valid hv)] at h1
  by_cases h0 : n < 0
  · rw [if_pos h0] at h1; cases h1
  · rw [if_neg h0, width_nb hv, if_pos h] at h1; cases h1
theorem within_in {a c : Addr} {n : Nat} (ha : a.ok) (hc : c.ok) (hv : a.valid = true) (hv2 : c.valid = true) (h : a.v = c.v) (hn : (n : Int) ≤ a.width) : a.within c n = decide (∀ i, i < n → a.bitAt i = c.bitAt i) := by
  have hw : a.width = c.width := by unfold Addr.width; rw [h]
  have hb : a.width ≤ 128 := by unfold Addr.width; split <;> omega
  have e1 : a.maskE n = 0 := by unfold Addr.maskE; rw [if_neg (nb_valid hv), if_neg (by omega), if_neg (by rw [width_nb hv]; omega)]
  have e2 : c.maskE n = 0 := by unfold Addr.maskE; rw [if_neg (nb_valid hv2), if_neg (by omega), if_neg (by rw [width_nb hv2]; omega)]
  unfold Addr.within
  rw [decide_eq_decide]
  unfold Addr.mask
  rw [if_pos e1, if_pos e2, ← bits_same ha hc n (by omega)]
  constructor
  · rintro ⟨_, _, h3⟩; exact congrArg Addr.b h3
  · intro h3; exact ⟨e1, e2, by rw [h]; simp only [Int.toNat_natCast]; rw [h3]⟩
set_option maxRecDepth 100000 in
set_option maxHeartbeats 4000000 in
theorem rwithin_calls (a c : Addr) (ha : a.ok) (hc : c.ok) (n : Int) (w : World) : Calls Tryd.prog 30 #[.agg a.cells, .agg c.cells, .int .i64 n] w fun e w' => e = .returned (.bool (a.within c n)) ∧ Below w.heap.size w w' := by
  obtain ⟨q1, hq1⟩ : ∃ q, a.valid = q := ⟨_, rfl⟩
  obtain ⟨q2, hq2⟩ : ∃ q, c.valid = q := ⟨_, rfl⟩
  have HV := Lib.hid hq1
  have HV2 := Lib.hid hq2
  cases q1
  · -- not valid
    have h' : ¬ a.valid = true := by rw [hq1]; decide
    cases q2
    all_goals (
      have HR : Hid (a.within c n = false) := Lib.hid (within_inv h')
      clear hq1 hq2 h'
      go_enter Tryd.func30, Tryd.ntmps30
      go_upto_region 1 with fail
      refine wp_named fun W hW => ?_
      obtain ⟨bk, bk2, BW, sW⟩ := box2 hW
      clear hW
      go_upto_region 2 with (first | (refine wpList_load_blk rfl 35 _ rfl w.heap.size 35 _ _ rfl bk.out Tryd.underlying35 rfl (by as_aux_lemma => exact szc ‹_›) ?_) | (go_at_call 29; refine (rvalid_calls a ha _).mono ?_; rintro e W1 ⟨rfl, hB⟩; rw [HV.out]))
      have bk_1 := Lib.hid (bk.out.later hB (by rw [sW.out]; omega))
      have bk2_1 := Lib.hid (bk2.out.later hB (by rw [sW.out]; omega))
      have BW1 := keep BW hB
      have sW1 := Lib.hid (Nat.le_trans (Nat.le_of_eq sW.out.symm) hB.size)
      clear hB
      go_upto_region 3 with (first | (refine wpList_load_blk rfl 35 _ rfl (w.heap.size + 1) 35 _ _ rfl bk2_1.out Tryd.underlying35 rfl (by as_aux_lemma => exact szc ‹_›) ?_) | (go_at_call 29; refine (rvalid_calls c hc _).mono ?_; rintro e W1 ⟨rfl, hB⟩; rw [HV2.out]))
      have bk_2 := Lib.hid (bk_1.out.later hB (by have := sW1.out; omega))
      have bk2_2 := Lib.hid (bk2_1.out.later hB (by have := sW1.out; omega))
      have BW2 := keep BW1 hB
      have sW2 := Lib.hid (Nat.le_trans sW1.out hB.size)
      clear hB
      have v1 := cell_v bk_2.out
      have v2 := cell_v bk2_2.out
      go_wp2_with (first | (refine wpList_load_blk rfl 35 _ rfl w.heap.size 35 _ _ rfl bk_2.out Tryd.underlying35 rfl (by as_aux_lemma => exact szc ‹_›) ?_) | (go_at_call 47; refine (rbits_calls a ha _).mono ?_; rintro e W4 ⟨rfl, hB⟩; have BW3 := keep BW2 hB))
      go_ret
      exact ⟨by rw [HR.out]; rfl, BW2.out⟩
    )
  · cases q2
    · have h' : ¬ c.valid = true := by rw [hq2]; decide
      have HR : Hid (a.within c n = false) := Lib.hid (within_inv2 h')
      clear hq1 hq2 h'
      go_enter Tryd.func30, Tryd.ntmps30
      go_upto_region 1 with fail
      refine wp_named fun W hW => ?_
      obtain ⟨bk, bk2, BW, sW⟩ := box2 hW
      clear hW
      go_upto_region 2 with (first | (refine wpList_load_blk rfl 35 _ rfl w.heap.size 35 _ _ rfl bk.out Tryd.underlying35 rfl (by as_aux_lemma => exact szc ‹_›) ?_) | (go_at_call 29; refine (rvalid_calls a ha _).mono ?_; rintro e W1 ⟨rfl, hB⟩; rw [HV.out]))
      have bk_1 := Lib.hid (bk.out.later hB (by rw [sW.out]; omega))
      have bk2_1 := Lib.hid (bk2.out.later hB (by rw [sW.out]; omega))
      have BW1 := keep BW hB
      have sW1 := Lib.hid (Nat.le_trans (Nat.le_of_eq sW.out.symm) hB.size)
      clear hB
      go_upto_region 3 with (first | (refine wpList_load_blk rfl 35 _ rfl (w.heap.size + 1) 35 _ _ rfl bk2_1.out Tryd.underlying35 rfl (by as_aux_lemma => exact szc ‹_›) ?_) | (go_at_call 29; refine (rvalid_calls c hc _).mono ?_; rintro e W1 ⟨rfl, hB⟩; rw [HV2.out]))
      have bk_2 := Lib.hid (bk_1.out.later hB (by have := sW1.out; omega))
      have bk2_2 := Lib.hid (bk2_1.out.later hB (by have := sW1.out; omega))
      have BW2 := keep BW1 hB
      have sW2 := Lib.hid (Nat.le_trans sW1.out hB.size)
      clear hB
      have v1 := cell_v bk_2.out
      have v2 := cell_v bk2_2.out
      go_wp2_with (first | (refine wpList_load_blk rfl 35 _ rfl w.heap.size 35 _ _ rfl bk_2.out Tryd.underlying35 rfl (by as_aux_lemma => exact szc ‹_›) ?_) | (go_at_call 47; refine (rbits_calls a ha _).mono ?_; rintro e W4 ⟨rfl, hB⟩; have BW3 := keep BW2 hB))
      go_ret
      exact ⟨by rw [HR.out]; rfl, BW2.out⟩
    · by_cases hv : a.v = c.v
      · have ev : (a.v != c.v) = false := bne_eq_false_iff_eq.2 hv
        by_cases h2 : n < 0
        · have e2 : decide (n < 0) = true := decide_eq_true h2
          have HR : Hid (a.within c n = false) := Lib.hid (within_neg h2)
          clear hq1 hq2 hv h2
          go_enter Tryd.func30, Tryd.ntmps30
          go_upto_region 1 with fail
          refine wp_named fun W hW => ?_
          obtain ⟨bk, bk2, BW, sW⟩ := box2 hW
          clear hW
          go_upto_region 2 with (first | (refine wpList_load_blk rfl 35 _ rfl w.heap.size 35 _ _ rfl bk.out Tryd.underlying35 rfl (by as_aux_lemma => exact szc ‹_›) ?_) | (go_at_call 29; refine (rvalid_calls a ha _).mono ?_; rintro e W1 ⟨rfl, hB⟩; rw [HV.out]))
          have bk_1 := Lib.hid (bk.out.later hB (by rw [sW.out]; omega))
          have bk2_1 := Lib.hid (bk2.out.later hB (by rw [sW.out]; omega))
          have BW1 := keep BW hB
          have sW1 := Lib.hid (Nat.le_trans (Nat.le_of_eq sW.out.symm) hB.size)
          clear hB
          go_upto_region 3 with (first | (refine wpList_load_blk rfl 35 _ rfl (w.heap.size + 1) 35 _ _ rfl bk2_1.out Tryd.underlying35 rfl (by as_aux_lemma => exact szc ‹_›) ?_) | (go_at_call 29; refine (rvalid_calls c hc _).mono ?_; rintro e W1 ⟨rfl, hB⟩; rw [HV2.out]))
          have bk_2 := Lib.hid (bk_1.out.later hB (by have := sW1.out; omega))
          have bk2_2 := Lib.hid (bk2_1.out.later hB (by have := sW1.out; omega))
          have BW2 := keep BW1 hB
          have sW2 := Lib.hid (Nat.le_trans sW1.out hB.size)
          clear hB
          have v1 := cell_v bk_2.out
          have v2 := cell_v bk2_2.out
          go_wp2_with (first | (refine wpList_load_blk rfl 35 _ rfl w.heap.size 35 _ _ rfl bk_2.out Tryd.underlying35 rfl (by as_aux_lemma => exact szc ‹_›) ?_) | (go_at_call 47; refine (rbits_calls a ha _).mono ?_; rintro e W4 ⟨rfl, hB⟩; have BW3 := keep BW2 hB))
          go_ret
          exact ⟨by rw [HR.out]; rfl, BW2.out⟩
        · have e2 : decide (n < 0) = false := decide_eq_false h2
          by_cases h3 : a.width < n
          · have e3 : decide (a.width < n) = true := decide_eq_true h3
            have HR : Hid (a.within c n = false) := Lib.hid (within_big hq1 h3)
            clear hq1 hq2 hv h2 h3
            go_enter Tryd.func30, Tryd.ntmps30
            go_upto_region 1 with fail
            refine wp_named fun W hW => ?_
            obtain ⟨bk, bk2, BW, sW⟩ := box2 hW
            clear hW
            go_upto_region 2 with (first | (refine wpList_load_blk rfl 35 _ rfl w.heap.size 35 _ _ rfl bk.out Tryd.underlying35 rfl (by as_aux_lemma => exact szc ‹_›) ?_) | (go_at_call 29; refine (rvalid_calls a ha _).mono ?_; rintro e W1 ⟨rfl, hB⟩; rw [HV.out]))
            have bk_1 := Lib.hid (bk.out.later hB (by rw [sW.out]; omega))
            have bk2_1 := Lib.hid (bk2.out.later hB (by rw [sW.out]; omega))
            have BW1 := keep BW hB
            have sW1 := Lib.hid (Nat.le_trans (Nat.le_of_eq sW.out.symm) hB.size)
            clear hB
            go_upto_region 3 with (first | (refine wpList_load_blk rfl 35 _ rfl (w.heap.size + 1) 35 _ _ rfl bk2_1.out Tryd.underlying35 rfl (by as_aux_lemma => exact szc ‹_›) ?_) | (go_at_call 29; refine (rvalid_calls c hc _).mono ?_; rintro e W1 ⟨rfl, hB⟩; rw [HV2.out]))
            have bk_2 := Lib.hid (bk_1.out.later hB (by have := sW1.out; omega))
            have bk2_2 := Lib.hid (bk2_1.out.later hB (by have := sW1.out; omega))
            have BW2 := keep BW1 hB
            have sW2 := Lib.hid (Nat.le_trans sW1.out hB.size)
            clear hB
            have v1 := cell_v bk_2.out
            have v2 := cell_v bk2_2.out
            go_wp2_with (first | (refine wpList_load_blk rfl 35 _ rfl w.heap.size 35 _ _ rfl bk_2.out Tryd.underlying35 rfl (by as_aux_lemma => exact szc ‹_›) ?_) | (go_at_call 47; refine (rbits_calls a ha _).mono ?_; rintro e W4 ⟨rfl, hB⟩; have BW3 := keep BW2 hB))
            go_ret
            exact ⟨by rw [HR.out]; rfl, BW3.out⟩
          · have e3 : decide (a.width < n) = false := decide_eq_false h3
            obtain ⟨m, rfl⟩ := Int.eq_ofNat_of_zero_le (show 0 ≤ n by omega)
            have HR : Hid (a.within c m = decide (∀ i, i < m → a.bitAt i = c.bitAt i)) := Lib.hid (within_in ha hc hq1 hq2 hv (by omega))
            have hm : m ≤ 128 := by
              have : a.width ≤ 128 := by unfold Addr.width; split <;> omega
              omega
            clear hq1 hq2 hv h2 h3
            go_enter Tryd.func30, Tryd.ntmps30
            go_upto_region 1 with fail
            refine wp_named fun W hW => ?_
            obtain ⟨bk, bk2, BW, sW⟩ := box2 hW
            clear hW
            go_upto_region 2 with (first | (refine wpList_load_blk rfl 35 _ rfl w.heap.size 35 _ _ rfl bk.out Tryd.underlying35 rfl (by as_aux_lemma => exact szc ‹_›) ?_) | (go_at_call 29; refine (rvalid_calls a ha _).mono ?_; rintro e W1 ⟨rfl, hB⟩; rw [HV.out]))
            have bk_1 := Lib.hid (bk.out.later hB (by rw [sW.out]; omega))
            have bk2_1 := Lib.hid (bk2.out.later hB (by rw [sW.out]; omega))
            have BW1 := keep BW hB
            have sW1 := Lib.hid (Nat.le_trans (Nat.le_of_eq sW.out.symm) hB.size)
            clear hB
            go_upto_region 3 with (first | (refine wpList_load_blk rfl 35 _ rfl (w.heap.size + 1) 35 _ _ rfl bk2_1.out Tryd.underlying35 rfl (by as_aux_lemma => exact szc ‹_›) ?_) | (go_at_call 29; refine (rvalid_calls c hc _).mono ?_; rintro e W1 ⟨rfl, hB⟩; rw [HV2.out]))
            have bk_2 := Lib.hid (bk_1.out.later hB (by have := sW1.out; omega))
            have bk2_2 := Lib.hid (bk2_1.out.later hB (by have := sW1.out; omega))
            have BW2 := keep BW1 hB
            have sW2 := Lib.hid (Nat.le_trans sW1.out hB.size)
            clear hB
            have v1 := cell_v bk_2.out
            have v2 := cell_v bk2_2.out
            go_upto_region 5 with (first | (refine wpList_load_blk rfl 35 _ rfl w.heap.size 35 _ _ rfl bk_2.out Tryd.underlying35 rfl (by as_aux_lemma => exact szc ‹_›) ?_) | (go_at_call 47; refine (rbits_calls a ha _).mono ?_; rintro e W4 ⟨rfl, hB⟩; have BW3 := keep BW2 hB))
            have bk_3 := Lib.hid (bk_2.out.later hB (by have := sW2.out; omega))
            have bk2_3 := Lib.hid (bk2_2.out.later hB (by have := sW2.out; omega))
            have sW3 := Lib.hid (Nat.le_trans sW2.out hB.size)
            clear hB bk bk2 bk_1 bk2_1 bk_2 bk2_2 v1 v2 BW BW1 BW2 sW sW1 sW2
            go_wp2
            go_loopw [9] (fun i wr => ∃ k : Nat, k ≤ m ∧ i = .int .i64 k ∧ (∀ j, j < k → a.bitAt j = c.bitAt j) ∧ Below W4.heap.size W4 wr) (fun i _ => m - (intOf i).toNat)
            case atStart => exact ⟨0, by omega, rfl, fun j hj => by omega, Below.refl _ _⟩
            case round =>
              obtain ⟨k, hk, rfl, hz, hb⟩ := hrel
              have HZ := Lib.hid hz
              have HB := Lib.hid hb
              clear hz hb
              have K0 := Lib.hid (bk_3.out.later HB.out (by have := sW3.out; omega))
              have K1 := Lib.hid (bk2_3.out.later HB.out (by have := sW3.out; omega))
              by_cases hltm : k < m
              · have hlt : k < 128 := by omega
                by_cases hx : a.bitAt k = c.bitAt k
                · have HX := Lib.hid hx
                  have ex : (a.bitAt k != c.bitAt k) = false := bne_eq_false_iff_eq.2 hx
                  clear hx
                  go_wp2
                  refine region_later (by kernel_rfl) (by kernel_rfl) ?_
                  repeat (first | go_big_quiet_skip | (go_big_quiet_want; first | (refine quiet_load 35 _ rfl w.heap.size 35 _ _ rfl K0.out Tryd.underlying35 rfl (szc ha) ?_; simp only [Act.put, List.setIfInBounds_toArray, List.set_cons_zero, List.set_cons_succ]; go_big_quiet_on) | (refine quiet_load 35 _ rfl (w.heap.size + 1) 35 _ _ rfl K1.out Tryd.underlying35 rfl (szc hc) ?_; simp only [Act.put, List.setIfInBounds_toArray, List.set_cons_zero, List.set_cons_succ]; go_big_quiet_on) | (go_big_quiet_op; first | go_big_quiet_on | go_big_quiet_call (first | (go_at_call 50; first | (with_reducible exact calls_later (rbit_calls a ha k hlt _)) | (with_reducible exact calls_later (rbit_calls c hc k hlt _)))))))
                  refine wpQuiet_nil ?_
                  intro z hz
                  have HBz := Lib.hid (HB.out.trans (hz.mono HB.out.size))
                  clear hz
                  go_wp2
                  exact ⟨⟨k + 1, by omega, by go_num, fun j hj => by rcases Nat.lt_or_ge j k with h | h; exact HZ.out j h; rw [show j = k by omega]; exact HX.out, HBz.out⟩, by simp [intOf]; omega⟩
                · have ex : (a.bitAt k != c.bitAt k) = true := bne_iff_ne.2 hx
                  have HS : Hid (decide (∀ i, i < m → a.bitAt i = c.bitAt i) = false) := Lib.hid (decide_eq_false fun h => hx (h k hltm))
                  clear hx
                  go_wp2
                  refine region_later (by kernel_rfl) (by kernel_rfl) ?_
                  repeat (first | go_big_quiet_skip | (go_big_quiet_want; first | (refine quiet_load 35 _ rfl w.heap.size 35 _ _ rfl K0.out Tryd.underlying35 rfl (szc ha) ?_; simp only [Act.put, List.setIfInBounds_toArray, List.set_cons_zero, List.set_cons_succ]; go_big_quiet_on) | (refine quiet_load 35 _ rfl (w.heap.size + 1) 35 _ _ rfl K1.out Tryd.underlying35 rfl (szc hc) ?_; simp only [Act.put, List.setIfInBounds_toArray, List.set_cons_zero, List.set_cons_succ]; go_big_quiet_on) | (go_big_quiet_op; first | go_big_quiet_on | go_big_quiet_call (first | (go_at_call 50; first | (with_reducible exact calls_later (rbit_calls a ha k hlt _)) | (with_reducible exact calls_later (rbit_calls c hc k hlt _)))))))
                  refine wpQuiet_nil ?_
                  intro z hz
                  have HBz := Lib.hid (HB.out.trans (hz.mono HB.out.size))
                  clear hz
                  go_wp2
                  go_ret
                  exact ⟨by rw [HR.out, HS.out]; rfl, (keep BW3 HBz.out).out⟩
              · have HS : Hid (decide (∀ i, i < m → a.bitAt i = c.bitAt i) = true) := Lib.hid (decide_eq_true fun i hi => HZ.out i (by omega))
                go_wp2
                go_ret
                exact ⟨by rw [HR.out, HS.out]; rfl, (keep BW3 HB.out).out⟩
      · have ev : (a.v != c.v) = true := bne_iff_ne.2 hv
        have HR : Hid (a.within c n = false) := Lib.hid (within_v hv)
        clear hq1 hq2 hv
        go_enter Tryd.func30, Tryd.ntmps30
        go_upto_region 1 with fail
        refine wp_named fun W hW => ?_
        obtain ⟨bk, bk2, BW, sW⟩ := box2 hW
        clear hW
        go_upto_region 2 with (first | (refine wpList_load_blk rfl 35 _ rfl w.heap.size 35 _ _ rfl bk.out Tryd.underlying35 rfl (by as_aux_lemma => exact szc ‹_›) ?_) | (go_at_call 29; refine (rvalid_calls a ha _).mono ?_; rintro e W1 ⟨rfl, hB⟩; rw [HV.out]))
        have bk_1 := Lib.hid (bk.out.later hB (by rw [sW.out]; omega))
        have bk2_1 := Lib.hid (bk2.out.later hB (by rw [sW.out]; omega))
        have BW1 := keep BW hB
        have sW1 := Lib.hid (Nat.le_trans (Nat.le_of_eq sW.out.symm) hB.size)
        clear hB
        go_upto_region 3 with (first | (refine wpList_load_blk rfl 35 _ rfl (w.heap.size + 1) 35 _ _ rfl bk2_1.out Tryd.underlying35 rfl (by as_aux_lemma => exact szc ‹_›) ?_) | (go_at_call 29; refine (rvalid_calls c hc _).mono ?_; rintro e W1 ⟨rfl, hB⟩; rw [HV2.out]))
        have bk_2 := Lib.hid (bk_1.out.later hB (by have := sW1.out; omega))
        have bk2_2 := Lib.hid (bk2_1.out.later hB (by have := sW1.out; omega))
        have BW2 := keep BW1 hB
        have sW2 := Lib.hid (Nat.le_trans sW1.out hB.size)
        clear hB
        have v1 := cell_v bk_2.out
        have v2 := cell_v bk2_2.out
        go_wp2_with (first | (refine wpList_load_blk rfl 35 _ rfl w.heap.size 35 _ _ rfl bk_2.out Tryd.underlying35 rfl (by as_aux_lemma => exact szc ‹_›) ?_) | (go_at_call 47; refine (rbits_calls a ha _).mono ?_; rintro e W4 ⟨rfl, hB⟩; have BW3 := keep BW2 hB))
        go_ret
        exact ⟨by rw [HR.out]; rfl, BW2.out⟩
end Go.Proofs.YtpaplobjmmpliaaDoor.Ad
