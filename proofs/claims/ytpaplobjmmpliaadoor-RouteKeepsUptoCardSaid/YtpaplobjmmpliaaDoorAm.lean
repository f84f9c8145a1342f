/- Contract of addr.Mask. Conditions: an address has sixteen bytes. -/
import Derived.Test.YtpaplobjmmpliaaDoorAr
namespace Go.Proofs.YtpaplobjmmpliaaDoor.Ad
set_option linter.unusedVariables false
set_option linter.unusedSimpArgs false
open Go.RowKit W
def zeroAd : Addr := ⟨0, zeros⟩
theorem zero_ok : zeroAd.ok := rfl
def keepB (x : UInt8) (k : Nat) : UInt8 := UInt8.ofNat (x.toNat / 2 ^ (8 - k) * 2 ^ (8 - k))
def partB (l : List UInt8) (n k : Nat) : List UInt8 := l.mapIdx fun i x => if i < k then keepB x (min 8 (n - 8 * i)) else x
def maskB (l : List UInt8) (n : Nat) : List UInt8 := partB l n 16
def Addr.maskE (a : Addr) (n : Int) : Int := if a.nb = 0 then 1 else if n < 0 then 1 else if a.nb < n then 1 else 0
def Addr.mask (a : Addr) (n : Int) : Addr := if a.maskE n = 0 then ⟨a.v, maskB a.b n.toNat⟩ else zeroAd
theorem part_len (l : List UInt8) (n k : Nat) : (partB l n k).length = l.length := by simp [partB]
theorem mask_ok {a : Addr} (h : a.ok) (n : Int) : (a.mask n).ok := by
  unfold Addr.mask Addr.ok; split
  · show (partB _ _ _).length = 16; rw [part_len]; exact h
  · rfl
theorem part_zero (l : List UInt8) (n : Nat) : partB l n 0 = l := by
  unfold partB; apply List.ext_getElem (by simp); intro i h1 h2; simp
theorem part_set (l : List UInt8) (n k : Nat) (hk : k < l.length) : (partB l n k).set k (keepB (l.getD k 0) (min 8 (n - 8 * k))) = partB l n (k + 1) := by
  apply List.ext_getElem (by simp [partB])
  intro i h1 h2
  rw [List.getElem_set]
  simp only [partB, List.getElem_mapIdx]
  by_cases h : k = i
  · subst h
    rw [if_pos rfl, if_pos (by omega), List.getD_eq_getElem?_getD, List.getElem?_eq_getElem hk]; rfl
  · rw [if_neg h]
    by_cases h' : i < k
    · rw [if_pos h', if_pos (by omega)]
    · rw [if_neg h', if_neg (by omega)]
theorem part_at (l : List UInt8) (n k : Nat) : (partB l n k).getD k 0 = l.getD k 0 := by
  unfold partB
  rw [List.getD_eq_getElem?_getD, List.getD_eq_getElem?_getD, List.getElem?_mapIdx]
  cases h : l[k]? with
  | none => rfl
  | some x => simp
theorem cells_set (v : Int) (l : List UInt8) (k : Nat) (x : UInt8) : (Addr.cells ⟨v, l⟩).setIfInBounds (1 + k) (.int .u8 x.toNat) = Addr.cells ⟨v, l.set k x⟩ := by
  simp only [Addr.cells, by8]
  rw [List.setIfInBounds_toArray, Nat.add_comm, List.set_cons_succ, List.map_set]; rfl
theorem keep_and : ∀ (k : Fin 9) (x : Fin 256), Go.bits .and .u8 (x.val : Int) ((65280 / 2 ^ k.val) % 256) = ((x.val / 2 ^ (8 - k.val) * 2 ^ (8 - k.val) : Nat) : Int) := by decide +kernel
theorem keep_bits (x : UInt8) (k : Nat) (hk : k ≤ 8) : Go.bits .and .u8 (x.toNat : Int) ((65280 / 2 ^ k) % 256) = ((keepB x k).toNat : Int) := by
  have h := keep_and ⟨k, by omega⟩ ⟨x.toNat, x.toNat_lt⟩
  have h2 : x.toNat / 2 ^ (8 - k) * 2 ^ (8 - k) ≤ x.toNat := Nat.div_mul_le_self _ _
  have := x.toNat_lt
  unfold keepB
  rw [UInt8.toNat_ofNat', Nat.mod_eq_of_lt (by omega)]
  exact h
theorem mask_round {a : Addr} {w wr : World} {m k : Nat} {x : UInt8} {y : Int} (ha : a.ok) (hk : k < 16) (hx : a.b.getD k 0 = x) (hy : y = ((keepB x (min 8 (m - 8 * k))).toNat : Int))
    (r1 : Hid (Blk wr w.heap.size 35 (Addr.cells ⟨a.v, partB a.b m k⟩))) (r2 : Hid (Blk wr (w.heap.size + 1) 35 zeroAd.cells)) (r3 : Hid (Below w.heap.size w wr)) (r4 : Hid (w.heap.size + 2 ≤ wr.heap.size)) :
    Blk (wr.setCell ⟨w.heap.size, 1 + k, none⟩ (.int .u8 y)).drew w.heap.size 35 (Addr.cells ⟨a.v, partB a.b m (k + 1)⟩) ∧ Blk (wr.setCell ⟨w.heap.size, 1 + k, none⟩ (.int .u8 y)).drew (w.heap.size + 1) 35 zeroAd.cells ∧
      Below w.heap.size w (wr.setCell ⟨w.heap.size, 1 + k, none⟩ (.int .u8 y)).drew ∧ w.heap.size + 2 ≤ (wr.setCell ⟨w.heap.size, 1 + k, none⟩ (.int .u8 y)).drew.heap.size := by
  subst hy
  refine ⟨?_, (r2.out.far (by simp) _).drew, (r3.out.setCell (Nat.le_refl _) _).drew, by have := r4.out; simpa using this⟩
  have := r1.out.set_ (1 + k) (.int .u8 (keepB x (min 8 (m - 8 * k))).toNat)
  rw [cells_set, ← hx, part_set _ _ _ (by rw [ha]; exact hk)] at this
  rw [← hx]
  exact this.drew
set_option maxRecDepth 100000 in
set_option maxHeartbeats 1000000 in
theorem mask_calls (a : Addr) (ha : a.ok) (n : Int) (w : World) : Calls Tryd.prog 42 #[.agg a.cells, .int .i64 n] w fun e w' => e = .returned (.tuple #[.agg (a.mask n).cells, .int .i64 (a.maskE n)]) ∧ Below w.heap.size w w' := by
  by_cases h1 : a.nb = 0
  · have HE : Hid (a.maskE n = 1) := Lib.hid (if_pos h1)
    have HM : Hid (a.mask n = zeroAd) := Lib.hid (by unfold Addr.mask; rw [HE.out]; rfl)
    have e1 : (a.nb == 0) = true := beq_iff_eq.2 h1
    clear h1
    go_enter Tryd.func42, Tryd.ntmps42
    go_upto_region 1 with fail
    refine wp_named fun W hW => ?_
    obtain ⟨bk, bk2, BW, sW⟩ := box2 (cs' := zeroAd.cells) hW
    clear hW
    go_upto_region 3 with (first | (refine wpList_load_blk rfl 35 _ rfl w.heap.size 35 _ _ rfl bk.out Tryd.underlying35 rfl (by as_aux_lemma => exact szc ‹_›) ?_) | (go_at_call 49; refine (bits_calls a ha _).mono ?_; rintro e W1 ⟨rfl, hB⟩; have bk1 := Lib.hid (bk.out.later hB (by rw [sW.out]; omega)); have bz1 := Lib.hid (bk2.out.later hB (by rw [sW.out]; omega)); have BW1 := keep BW hB; have sW1 := Lib.hid (Nat.le_trans (Nat.le_of_eq sW.out.symm) hB.size); clear hB))
    have z0 := zero_ok
    go_wp2_with (refine wpList_store_blk rfl 35 _ _ rfl (w.heap.size + 1) 35 zeroAd.cells zeroAd.cells rfl rfl bz1.out rfl (szc zero_ok) (one_cells _) ?_; intro W2 P2)
    refine bodyPost_ret (v := .tuple #[.agg zeroAd.cells, .int .i64 1]) (by exact results_cell2 (fn := Tryd.f42) rfl _ _ (w.heap.size + 1) 35 zeroAd.cells _ rfl P2.blk Tryd.underlying35 rfl (szc zero_ok)) rfl ⟨by rw [HM.out, HE.out], ?_⟩
    exact P2.below BW1.out (by omega) (by have := sW1.out; omega)
  · have e1 : (a.nb == 0) = false := beq_eq_false_iff_ne.2 h1
    by_cases h2 : n < 0
    · have HE : Hid (a.maskE n = 1) := Lib.hid (by unfold Addr.maskE; rw [if_neg h1, if_pos h2])
      have HM : Hid (a.mask n = zeroAd) := Lib.hid (by unfold Addr.mask; rw [HE.out]; rfl)
      have e2 : decide (n < 0) = true := decide_eq_true h2
      clear h1 h2
      go_enter Tryd.func42, Tryd.ntmps42
      go_upto_region 1 with fail
      refine wp_named fun W hW => ?_
      obtain ⟨bk, bk2, BW, sW⟩ := box2 (cs' := zeroAd.cells) hW
      clear hW
      go_upto_region 3 with (first | (refine wpList_load_blk rfl 35 _ rfl w.heap.size 35 _ _ rfl bk.out Tryd.underlying35 rfl (by as_aux_lemma => exact szc ‹_›) ?_) | (go_at_call 49; refine (bits_calls a ha _).mono ?_; rintro e W1 ⟨rfl, hB⟩; have bk1 := Lib.hid (bk.out.later hB (by rw [sW.out]; omega)); have bz1 := Lib.hid (bk2.out.later hB (by rw [sW.out]; omega)); have BW1 := keep BW hB; have sW1 := Lib.hid (Nat.le_trans (Nat.le_of_eq sW.out.symm) hB.size); clear hB))
      have z0 := zero_ok
      go_wp2_with (refine wpList_store_blk rfl 35 _ _ rfl (w.heap.size + 1) 35 zeroAd.cells zeroAd.cells rfl rfl bz1.out rfl (szc zero_ok) (one_cells _) ?_; intro W2 P2)
      refine bodyPost_ret (v := .tuple #[.agg zeroAd.cells, .int .i64 1]) (by exact results_cell2 (fn := Tryd.f42) rfl _ _ (w.heap.size + 1) 35 zeroAd.cells _ rfl P2.blk Tryd.underlying35 rfl (szc zero_ok)) rfl ⟨by rw [HM.out, HE.out], ?_⟩
      exact P2.below BW1.out (by omega) (by have := sW1.out; omega)
    · have e2 : decide (n < 0) = false := decide_eq_false h2
      by_cases h3 : a.nb < n
      · have HE : Hid (a.maskE n = 1) := Lib.hid (by unfold Addr.maskE; rw [if_neg h1, if_neg h2, if_pos h3])
        have HM : Hid (a.mask n = zeroAd) := Lib.hid (by unfold Addr.mask; rw [HE.out]; rfl)
        have e3 : decide (a.nb < n) = true := decide_eq_true h3
        clear h1 h2 h3
        go_enter Tryd.func42, Tryd.ntmps42
        go_upto_region 1 with fail
        refine wp_named fun W hW => ?_
        obtain ⟨bk, bk2, BW, sW⟩ := box2 (cs' := zeroAd.cells) hW
        clear hW
        go_upto_region 3 with (first | (refine wpList_load_blk rfl 35 _ rfl w.heap.size 35 _ _ rfl bk.out Tryd.underlying35 rfl (by as_aux_lemma => exact szc ‹_›) ?_) | (go_at_call 49; refine (bits_calls a ha _).mono ?_; rintro e W1 ⟨rfl, hB⟩; have bk1 := Lib.hid (bk.out.later hB (by rw [sW.out]; omega)); have bz1 := Lib.hid (bk2.out.later hB (by rw [sW.out]; omega)); have BW1 := keep BW hB; have sW1 := Lib.hid (Nat.le_trans (Nat.le_of_eq sW.out.symm) hB.size); clear hB))
        have z0 := zero_ok
        go_wp2_with (refine wpList_store_blk rfl 35 _ _ rfl (w.heap.size + 1) 35 zeroAd.cells zeroAd.cells rfl rfl bz1.out rfl (szc zero_ok) (one_cells _) ?_; intro W2 P2)
        refine bodyPost_ret (v := .tuple #[.agg zeroAd.cells, .int .i64 1]) (by exact results_cell2 (fn := Tryd.f42) rfl _ _ (w.heap.size + 1) 35 zeroAd.cells _ rfl P2.blk Tryd.underlying35 rfl (szc zero_ok)) rfl ⟨by rw [HM.out, HE.out], ?_⟩
        exact P2.below BW1.out (by omega) (by have := sW1.out; omega)
      · have e3 : decide (a.nb < n) = false := decide_eq_false h3
        have HE : Hid (a.maskE n = 0) := Lib.hid (by unfold Addr.maskE; rw [if_neg h1, if_neg h2, if_neg h3])
        have hn : n ≤ 128 := by
          have : a.nb ≤ 128 := by unfold Addr.nb; split; split; omega; omega; split; omega; omega
          omega
        obtain ⟨m, rfl⟩ := Int.eq_ofNat_of_zero_le (show 0 ≤ n by omega)
        have hm : m ≤ 128 := by omega
        have HM : Hid (a.mask m = ⟨a.v, partB a.b m 16⟩) := Lib.hid (by unfold Addr.mask; rw [if_pos HE.out]; rfl)
        have hB0 : Hid (Addr.cells ⟨a.v, partB a.b m 0⟩ = a.cells) := Lib.hid (by rw [part_zero])
        clear h1 h2 h3 hn
        go_enter Tryd.func42, Tryd.ntmps42
        go_upto_region 1 with fail
        refine wp_named fun W hW => ?_
        obtain ⟨bk, bk2, BW, sW⟩ := box2 (cs' := zeroAd.cells) hW
        clear hW
        go_upto_region 4 with (first | (refine wpList_load_blk rfl 35 _ rfl w.heap.size 35 _ _ rfl bk.out Tryd.underlying35 rfl (by as_aux_lemma => exact szc ‹_›) ?_) | (go_at_call 49; refine (bits_calls a ha _).mono ?_; rintro e W1 ⟨rfl, hB⟩; have bk1 := Lib.hid (bk.out.later hB (by rw [sW.out]; omega)); have bz1 := Lib.hid (bk2.out.later hB (by rw [sW.out]; omega)); have BW1 := keep BW hB; have sW1 := Lib.hid (Nat.le_trans (Nat.le_of_eq sW.out.symm) hB.size); clear hB))
        go_wp2
        go_loopw [23] (fun i wr => ∃ k : Nat, k ≤ 16 ∧ i = .int .i64 k ∧ Blk wr w.heap.size 35 (Addr.cells ⟨a.v, partB a.b m k⟩) ∧ Blk wr (w.heap.size + 1) 35 zeroAd.cells ∧ Below w.heap.size w wr ∧ w.heap.size + 2 ≤ wr.heap.size) (fun i _ => 16 - (intOf i).toNat)
        case atStart => exact ⟨0, by omega, rfl, by rw [hB0.out]; exact bk1.out, bz1.out, BW1.out, sW1.out⟩
        case round =>
          obtain ⟨k, hk, rfl, r1, r2, r3, r4⟩ := hrel
          obtain ⟨wq, hq⟩ : ∃ wq : World, wq = wr := ⟨wr, rfl⟩
          have R1 := Lib.hid r1
          have R2 := Lib.hid r2
          have R3 := Lib.hid r3
          have R4 := Lib.hid r4
          clear r1 r2 r3 r4 bk1 bz1 BW1 sW1 bk bk2 BW sW hB0 hq
          by_cases hlt : k < 16
          · have hc : wr.cell? ⟨w.heap.size, 1 + k, none⟩ = some (.int .u8 ((partB a.b m k).getD k 0).toNat) := cell_b R1.out (show (partB a.b m k).length = 16 by rw [part_len]; exact ha) k hlt
            rw [part_at] at hc
            have hf := R1.out.frozen (1 + k)
            obtain ⟨x, hx⟩ : ∃ x, a.b.getD k 0 = x := ⟨_, rfl⟩
            rw [hx] at hc
            have HX := Lib.hid hx
            clear hx
            rcases (by omega : m ≤ 8 * k ∨ (8 * k < m ∧ m < 8 * k + 8) ∨ 8 * k + 8 ≤ m) with hq | ⟨hq, hq'⟩ | hq
            all_goals (
              go_wp2
              refine region_still_tail 10 (by kernel_rfl) (by kernel_rfl) ?_
              simp only [List.take_succ_cons, List.take_zero, List.drop_succ_cons, List.drop_zero]
              repeat still_step
              refine wpStill_nil ?_
              go_wp2)
            · refine ⟨⟨k + 1, by omega, by go_num, mask_round ha hlt HX.out ?_ R1 R2 R3 R4⟩, by simp [intOf]; omega⟩
              rw [show min 8 (m - 8 * k) = 0 by omega]; exact keep_bits x 0 (by omega)
            · refine ⟨⟨k + 1, by omega, by go_num, mask_round ha hlt HX.out ?_ R1 R2 R3 R4⟩, by simp [intOf]; omega⟩
              rw [show min 8 (m - 8 * k) = m - 8 * k by omega]; exact keep_bits x (m - 8 * k) (by omega)
            · refine ⟨⟨k + 1, by omega, by go_num, mask_round ha hlt HX.out ?_ R1 R2 R3 R4⟩, by simp [intOf]; omega⟩
              rw [show min 8 (m - 8 * k) = 8 by omega]; exact keep_bits x 8 (by omega)
          · obtain rfl : k = 16 := by omega
            have hp : Addr.ok ⟨a.v, partB a.b m 16⟩ := by unfold Addr.ok; show (partB a.b m 16).length = 16; rw [part_len]; exact ha
            go_wp2_with (first | (refine wpList_load_blk rfl 35 _ rfl w.heap.size 35 _ _ rfl R1.out Tryd.underlying35 rfl (szc hp) ?_) | (refine wpList_store_blk rfl 35 _ _ rfl (w.heap.size + 1) 35 zeroAd.cells (Addr.cells ⟨a.v, partB a.b m 16⟩) rfl rfl R2.out (by rw [csize hp, csize zero_ok]) (szc hp) (one_cells _) ?_; intro W2 P2))
            refine bodyPost_ret (v := .tuple #[.agg (Addr.cells ⟨a.v, partB a.b m 16⟩), .int .i64 0]) (by exact results_cell2 (fn := Tryd.f42) rfl _ _ (w.heap.size + 1) 35 _ _ rfl P2.blk Tryd.underlying35 rfl (szc hp)) rfl ⟨by rw [HM.out, HE.out], ?_⟩
            exact P2.below R3.out (by omega) (by have := R4.out; omega)
end Go.Proofs.YtpaplobjmmpliaaDoor.Ad
