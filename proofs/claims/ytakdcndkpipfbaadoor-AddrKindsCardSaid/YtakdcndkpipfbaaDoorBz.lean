/- Contract of the law AddrKinds. Conditions: the address has sixteen bytes; the library tables hold what its text lays. -/
import Derived.Test.YtakdcndkpipfbaaDoorBt
import Derived.Test.YtakdcndkpipfbaaDoorBy
namespace Go.Proofs.YtakdcndkpipfbaaDoor.Ad
set_option linter.unusedVariables false
set_option linter.unusedSimpArgs false
open Go.RowKit W
/-- A world of the law's own with its argument's block. -/
structure En (B : Nat) (w : World) (a : Addr) (W : World) : Prop where
  below : Below B w W
  b1 : Blk W B 24 a.cells
  gl : Gl W
theorem En.later {B : Nat} {w W W' : World} {a : Addr} (h : En B w a W) (hb : Below W.heap.size W W') : En B w a W' := ⟨h.below.trans (hb.mono (Nat.le_of_lt h.b1.lt)), h.b1.later hb h.b1.lt, h.gl.later hb⟩
set_option maxRecDepth 100000 in
set_option maxHeartbeats 4000000 in
theorem kinds0 (a c1 c2 c3 c4 sx on : Addr) (ha : a.ok) (hsx : sx.ok) (hon : on.ok) (HSX : Hid (sx.cells = #[.int .i64 6, .int .u8 255, .int .u8 0, .int .u8 0, .int .u8 0, .int .u8 0, .int .u8 0, .int .u8 0, .int .u8 0, .int .u8 0, .int .u8 0, .int .u8 0, .int .u8 0, .int .u8 0, .int .u8 0, .int .u8 0, .int .u8 0])) (HON : Hid (on.cells = #[.int .i64 6, .int .u8 0, .int .u8 0, .int .u8 0, .int .u8 0, .int .u8 0, .int .u8 0, .int .u8 0, .int .u8 0, .int .u8 0, .int .u8 0, .int .u8 0, .int .u8 0, .int .u8 0, .int .u8 0, .int .u8 0, .int .u8 1])) (HK : Hid (∀ w, Calls Tryd.prog 14 #[.agg a.cells] w fun e w' => e = .returned (.int .i64 2) ∧ Below w.heap.size w w')) (HV : Hid (∀ w, Calls Tryd.prog 12 #[.agg a.cells] w fun e w' => e = .returned (.bool true) ∧ Below w.heap.size w w')) (HF1 : Hid (∀ w, Calls Tryd.prog 25 #[.int .u8 127, .int .u8 0, .int .u8 0, .int .u8 0] w fun e w' => e = .returned (.agg c1.cells) ∧ Below w.heap.size w w')) (HF2 : Hid (∀ w, Calls Tryd.prog 25 #[.int .u8 224, .int .u8 0, .int .u8 0, .int .u8 0] w fun e w' => e = .returned (.agg c2.cells) ∧ Below w.heap.size w w')) (HF3 : Hid (∀ w, Calls Tryd.prog 25 #[.int .u8 0, .int .u8 0, .int .u8 0, .int .u8 0] w fun e w' => e = .returned (.agg c3.cells) ∧ Below w.heap.size w w')) (HF4 : Hid (∀ w, Calls Tryd.prog 25 #[.int .u8 255, .int .u8 255, .int .u8 255, .int .u8 255] w fun e w' => e = .returned (.agg c4.cells) ∧ Below w.heap.size w w')) (HL1 : Hid (∀ w, Calls Tryd.prog 20 #[.agg a.cells, .agg c1.cells, .int .i64 8] w fun e w' => e = .returned (.bool true) ∧ Below w.heap.size w w')) (HL2 : Hid (∀ w, Calls Tryd.prog 20 #[.agg a.cells, .agg on.cells, .int .i64 128] w fun e w' => e = .returned (.bool false) ∧ Below w.heap.size w w')) (HM1 : Hid (∀ w, Calls Tryd.prog 20 #[.agg a.cells, .agg c2.cells, .int .i64 4] w fun e w' => e = .returned (.bool false) ∧ Below w.heap.size w w')) (HM2 : Hid (∀ w, Calls Tryd.prog 20 #[.agg a.cells, .agg sx.cells, .int .i64 8] w fun e w' => e = .returned (.bool false) ∧ Below w.heap.size w w')) (HZ1 : Hid (∀ w, Calls Tryd.prog 20 #[.agg a.cells, .agg c3.cells, .int .i64 32] w fun e w' => e = .returned (.bool false) ∧ Below w.heap.size w w')) (HZ2 : Hid (∀ w, Calls Tryd.prog 20 #[.agg a.cells, .agg #[.int .i64 6, .int .u8 0, .int .u8 0, .int .u8 0, .int .u8 0, .int .u8 0, .int .u8 0, .int .u8 0, .int .u8 0, .int .u8 0, .int .u8 0, .int .u8 0, .int .u8 0, .int .u8 0, .int .u8 0, .int .u8 0, .int .u8 0], .int .i64 128] w fun e w' => e = .returned (.bool false) ∧ Below w.heap.size w w')) (HAL : Hid (∀ w, Calls Tryd.prog 20 #[.agg a.cells, .agg c4.cells, .int .i64 32] w fun e w' => e = .returned (.bool false) ∧ Below w.heap.size w w')) (w : World) (hg : Gl w) : Calls Tryd.prog 8 #[.agg a.cells] w fun e w' => e = .returned (.bool true) ∧ Below w.heap.size w w' := by
  have HG := Lib.hid hg
  clear hg
  go_enter Tryd.func8, Tryd.ntmps8
  go_upto_region 1 with fail
  refine wp_named fun W hW => ?_
  obtain ⟨bk, BW, sW⟩ := box1 hW
  have GLW := Lib.hid (HG.out.later BW.out)
  clear hW
  have HE : Hid (En w.heap.size w a W) := Lib.hid ⟨BW.out, bk.out, GLW.out⟩
  go_upto_region 8 with (first | (refine wpList_load_blk rfl 24 _ rfl w.heap.size 24 _ _ rfl HE.out.b1 Tryd.underlying24 rfl (by as_aux_lemma => exact szc ha) ?_) | (go_at_call 9; (first | (with_reducible refine (alive_calls _ HE.out.gl).mono ?_)); rintro e W9 ⟨rfl, hB9⟩; have HE := Lib.hid (HE.out.later hB9); clear hB9) | (go_at_call 14; (first | (with_reducible refine (HK.out _).mono ?_)); rintro e W9 ⟨rfl, hB9⟩; have HE := Lib.hid (HE.out.later hB9); clear hB9) | (go_at_call 12; (first | (with_reducible refine (HV.out _).mono ?_)); rintro e W9 ⟨rfl, hB9⟩; have HE := Lib.hid (HE.out.later hB9); clear hB9))
  refine wp_named fun W2 hW2 => ?_
  have HE : Hid (En w.heap.size w a W2) := Lib.hid (by rw [hW2]; exact HE.out)
  clear hW2
  go_upto_region 9 with (refine wpList_store_blk rfl 24 _ _ rfl W2.heap.size 24 zeroAd.cells #[.int .i64 6, .int .u8 255, .int .u8 0, .int .u8 0, .int .u8 0, .int .u8 0, .int .u8 0, .int .u8 0, .int .u8 0, .int .u8 0, .int .u8 0, .int .u8 0, .int .u8 0, .int .u8 0, .int .u8 0, .int .u8 0, .int .u8 0] rfl rfl (Blk.new _ _ _) rfl sz24 (by rw [← HSX.out]; exact one_cells _) ?_; intro W3 P3)
  have b5 : Hid (Blk W3 W2.heap.size 24 sx.cells) := Lib.hid (by rw [HSX.out]; exact P3.blk)
  have HE3 : Hid (En w.heap.size w a W3) := Lib.hid (HE.out.later (P3.below ((Below.refl _ _).alloc (Nat.le_refl _) _) (Nat.le_refl _) (by simp)))
  clear P3
  go_upto_region 10 with (refine wpList_store_blk rfl 24 _ _ rfl W3.heap.size 24 zeroAd.cells #[.int .i64 6, .int .u8 0, .int .u8 0, .int .u8 0, .int .u8 0, .int .u8 0, .int .u8 0, .int .u8 0, .int .u8 0, .int .u8 0, .int .u8 0, .int .u8 0, .int .u8 0, .int .u8 0, .int .u8 0, .int .u8 0, .int .u8 1] rfl rfl (Blk.new _ _ _) rfl sz24 (by rw [← HON.out]; exact one_cells _) ?_; intro W4 P4)
  have b6 : Hid (Blk W4 W3.heap.size 24 on.cells) := Lib.hid (by rw [HON.out]; exact P4.blk)
  have h34 : Hid (Below W3.heap.size W3 W4) := Lib.hid (P4.below ((Below.refl _ _).alloc (Nat.le_refl _) _) (Nat.le_refl _) (by simp))
  have HE4 : Hid (En w.heap.size w a W4) := Lib.hid (HE3.out.later h34.out)
  have b5' := Lib.hid (b5.out.later h34.out b5.out.lt)
  clear P4
  obtain ⟨G5, hG5⟩ : ∃ g, W2.heap.size = g := ⟨_, rfl⟩
  obtain ⟨G6, hG6⟩ : ∃ g, W3.heap.size = g := ⟨_, rfl⟩
  rw [hG5] at b5' ⊢
  rw [hG6] at b6 ⊢
  have HA : Hid (Ali w w.heap.size G5 G6 a sx on W4) := Lib.hid ⟨HE4.out.below, HE4.out.b1, b5'.out, b6.out, HE4.out.gl⟩
  simp only [Act.put]
  clear hG5 hG6 b5 b5' b6 h34 HE3 HE4 HE bk BW sW GLW
  refine region_later (by kernel_rfl) (by kernel_rfl) ?_
  repeat (first | go_big_quiet_skip | (go_big_quiet_want; first | (refine quiet_load 24 _ rfl w.heap.size 24 _ _ rfl HA.out.b1 Tryd.underlying24 rfl (szc ha) ?_; simp only [Act.put, List.setIfInBounds_toArray, List.set_cons_zero, List.set_cons_succ]; go_big_quiet_on) | (refine quiet_load 24 _ rfl G5 24 _ _ rfl HA.out.b3 Tryd.underlying24 rfl (szc hsx) ?_; simp only [Act.put, List.setIfInBounds_toArray, List.set_cons_zero, List.set_cons_succ]; go_big_quiet_on) | (refine quiet_load 24 _ rfl G6 24 _ _ rfl HA.out.b7 Tryd.underlying24 rfl (szc hon) ?_; simp only [Act.put, List.setIfInBounds_toArray, List.set_cons_zero, List.set_cons_succ]; go_big_quiet_on) | (go_big_quiet_op; first | go_big_quiet_on | go_big_quiet_call (first | (go_at_call 25; exact calls_later (HF1.out _)) | (go_at_call 20; first | (with_reducible exact calls_later (HL1.out _)) | (with_reducible exact calls_later (HL2.out _)))))))
  refine wpQuiet_nil ?_
  intro z hz
  have HA := Lib.hid (HA.out.later hz)
  clear hz
  go_wp2
  refine region_later (by kernel_rfl) (by kernel_rfl) ?_
  repeat (first | go_big_quiet_skip | (go_big_quiet_want; first | (refine quiet_load 24 _ rfl w.heap.size 24 _ _ rfl HA.out.b1 Tryd.underlying24 rfl (szc ha) ?_; simp only [Act.put, List.setIfInBounds_toArray, List.set_cons_zero, List.set_cons_succ]; go_big_quiet_on) | (refine quiet_load 24 _ rfl G5 24 _ _ rfl HA.out.b3 Tryd.underlying24 rfl (szc hsx) ?_; simp only [Act.put, List.setIfInBounds_toArray, List.set_cons_zero, List.set_cons_succ]; go_big_quiet_on) | (refine quiet_load 24 _ rfl G6 24 _ _ rfl HA.out.b7 Tryd.underlying24 rfl (szc hon) ?_; simp only [Act.put, List.setIfInBounds_toArray, List.set_cons_zero, List.set_cons_succ]; go_big_quiet_on) | (go_big_quiet_op; first | go_big_quiet_on | go_big_quiet_call (first | (go_at_call 25; exact calls_later (HF2.out _)) | (go_at_call 20; first | (with_reducible exact calls_later (HM1.out _)) | (with_reducible exact calls_later (HM2.out _)))))))
  refine wpQuiet_nil ?_
  intro z hz
  have HA := Lib.hid (HA.out.later hz)
  clear hz
  go_wp2
  refine region_later (by kernel_rfl) (by kernel_rfl) ?_
  repeat (first | go_big_quiet_skip | (go_big_quiet_want; first | (refine quiet_load 24 _ rfl w.heap.size 24 _ _ rfl HA.out.b1 Tryd.underlying24 rfl (szc ha) ?_; simp only [Act.put, List.setIfInBounds_toArray, List.set_cons_zero, List.set_cons_succ]; go_big_quiet_on) | (refine quiet_load 24 _ rfl G5 24 _ _ rfl HA.out.b3 Tryd.underlying24 rfl (szc hsx) ?_; simp only [Act.put, List.setIfInBounds_toArray, List.set_cons_zero, List.set_cons_succ]; go_big_quiet_on) | (refine quiet_load 24 _ rfl G6 24 _ _ rfl HA.out.b7 Tryd.underlying24 rfl (szc hon) ?_; simp only [Act.put, List.setIfInBounds_toArray, List.set_cons_zero, List.set_cons_succ]; go_big_quiet_on) | (go_big_quiet_op; first | go_big_quiet_on | go_big_quiet_call (first | (go_at_call 25; exact calls_later (HF3.out _)) | (go_at_call 20; first | (with_reducible exact calls_later (HZ1.out _)) | (with_reducible exact calls_later (HZ2.out _)))))))
  refine wpQuiet_nil ?_
  intro z hz
  have HA := Lib.hid (HA.out.later hz)
  clear hz
  go_wp2
  refine region_later (by kernel_rfl) (by kernel_rfl) ?_
  repeat (first | go_big_quiet_skip | (go_big_quiet_want; first | (refine quiet_load 24 _ rfl w.heap.size 24 _ _ rfl HA.out.b1 Tryd.underlying24 rfl (szc ha) ?_; simp only [Act.put, List.setIfInBounds_toArray, List.set_cons_zero, List.set_cons_succ]; go_big_quiet_on) | (refine quiet_load 24 _ rfl G5 24 _ _ rfl HA.out.b3 Tryd.underlying24 rfl (szc hsx) ?_; simp only [Act.put, List.setIfInBounds_toArray, List.set_cons_zero, List.set_cons_succ]; go_big_quiet_on) | (refine quiet_load 24 _ rfl G6 24 _ _ rfl HA.out.b7 Tryd.underlying24 rfl (szc hon) ?_; simp only [Act.put, List.setIfInBounds_toArray, List.set_cons_zero, List.set_cons_succ]; go_big_quiet_on) | (go_big_quiet_op; first | go_big_quiet_on | go_big_quiet_call (first | (go_at_call 25; exact calls_later (HF4.out _)) | (go_at_call 20; exact calls_later (HAL.out _))))))
  refine wpQuiet_nil ?_
  intro z hz
  have HA := Lib.hid (HA.out.later hz)
  clear hz
  go_wp2
  go_ret
  exact ⟨rfl, HA.out.below⟩
set_option maxRecDepth 100000 in
set_option maxHeartbeats 4000000 in
theorem kinds1 (a c1 c2 c3 c4 sx on : Addr) (ha : a.ok) (hsx : sx.ok) (hon : on.ok) (HSX : Hid (sx.cells = #[.int .i64 6, .int .u8 255, .int .u8 0, .int .u8 0, .int .u8 0, .int .u8 0, .int .u8 0, .int .u8 0, .int .u8 0, .int .u8 0, .int .u8 0, .int .u8 0, .int .u8 0, .int .u8 0, .int .u8 0, .int .u8 0, .int .u8 0])) (HON : Hid (on.cells = #[.int .i64 6, .int .u8 0, .int .u8 0, .int .u8 0, .int .u8 0, .int .u8 0, .int .u8 0, .int .u8 0, .int .u8 0, .int .u8 0, .int .u8 0, .int .u8 0, .int .u8 0, .int .u8 0, .int .u8 0, .int .u8 0, .int .u8 1])) (HK : Hid (∀ w, Calls Tryd.prog 14 #[.agg a.cells] w fun e w' => e = .returned (.int .i64 3) ∧ Below w.heap.size w w')) (HV : Hid (∀ w, Calls Tryd.prog 12 #[.agg a.cells] w fun e w' => e = .returned (.bool true) ∧ Below w.heap.size w w')) (HF1 : Hid (∀ w, Calls Tryd.prog 25 #[.int .u8 127, .int .u8 0, .int .u8 0, .int .u8 0] w fun e w' => e = .returned (.agg c1.cells) ∧ Below w.heap.size w w')) (HF2 : Hid (∀ w, Calls Tryd.prog 25 #[.int .u8 224, .int .u8 0, .int .u8 0, .int .u8 0] w fun e w' => e = .returned (.agg c2.cells) ∧ Below w.heap.size w w')) (HF3 : Hid (∀ w, Calls Tryd.prog 25 #[.int .u8 0, .int .u8 0, .int .u8 0, .int .u8 0] w fun e w' => e = .returned (.agg c3.cells) ∧ Below w.heap.size w w')) (HF4 : Hid (∀ w, Calls Tryd.prog 25 #[.int .u8 255, .int .u8 255, .int .u8 255, .int .u8 255] w fun e w' => e = .returned (.agg c4.cells) ∧ Below w.heap.size w w')) (HL1 : Hid (∀ w, Calls Tryd.prog 20 #[.agg a.cells, .agg c1.cells, .int .i64 8] w fun e w' => e = .returned (.bool false) ∧ Below w.heap.size w w')) (HL2 : Hid (∀ w, Calls Tryd.prog 20 #[.agg a.cells, .agg on.cells, .int .i64 128] w fun e w' => e = .returned (.bool false) ∧ Below w.heap.size w w')) (HM1 : Hid (∀ w, Calls Tryd.prog 20 #[.agg a.cells, .agg c2.cells, .int .i64 4] w fun e w' => e = .returned (.bool true) ∧ Below w.heap.size w w')) (HM2 : Hid (∀ w, Calls Tryd.prog 20 #[.agg a.cells, .agg sx.cells, .int .i64 8] w fun e w' => e = .returned (.bool false) ∧ Below w.heap.size w w')) (HZ1 : Hid (∀ w, Calls Tryd.prog 20 #[.agg a.cells, .agg c3.cells, .int .i64 32] w fun e w' => e = .returned (.bool false) ∧ Below w.heap.size w w')) (HZ2 : Hid (∀ w, Calls Tryd.prog 20 #[.agg a.cells, .agg #[.int .i64 6, .int .u8 0, .int .u8 0, .int .u8 0, .int .u8 0, .int .u8 0, .int .u8 0, .int .u8 0, .int .u8 0, .int .u8 0, .int .u8 0, .int .u8 0, .int .u8 0, .int .u8 0, .int .u8 0, .int .u8 0, .int .u8 0], .int .i64 128] w fun e w' => e = .returned (.bool false) ∧ Below w.heap.size w w')) (HAL : Hid (∀ w, Calls Tryd.prog 20 #[.agg a.cells, .agg c4.cells, .int .i64 32] w fun e w' => e = .returned (.bool false) ∧ Below w.heap.size w w')) (w : World) (hg : Gl w) : Calls Tryd.prog 8 #[.agg a.cells] w fun e w' => e = .returned (.bool true) ∧ Below w.heap.size w w' := by
  have HG := Lib.hid hg
  clear hg
  go_enter Tryd.func8, Tryd.ntmps8
  go_upto_region 1 with fail
  refine wp_named fun W hW => ?_
  obtain ⟨bk, BW, sW⟩ := box1 hW
  have GLW := Lib.hid (HG.out.later BW.out)
  clear hW
  have HE : Hid (En w.heap.size w a W) := Lib.hid ⟨BW.out, bk.out, GLW.out⟩
  go_upto_region 8 with (first | (refine wpList_load_blk rfl 24 _ rfl w.heap.size 24 _ _ rfl HE.out.b1 Tryd.underlying24 rfl (by as_aux_lemma => exact szc ha) ?_) | (go_at_call 9; (first | (with_reducible refine (alive_calls _ HE.out.gl).mono ?_)); rintro e W9 ⟨rfl, hB9⟩; have HE := Lib.hid (HE.out.later hB9); clear hB9) | (go_at_call 14; (first | (with_reducible refine (HK.out _).mono ?_)); rintro e W9 ⟨rfl, hB9⟩; have HE := Lib.hid (HE.out.later hB9); clear hB9) | (go_at_call 12; (first | (with_reducible refine (HV.out _).mono ?_)); rintro e W9 ⟨rfl, hB9⟩; have HE := Lib.hid (HE.out.later hB9); clear hB9))
  refine wp_named fun W2 hW2 => ?_
  have HE : Hid (En w.heap.size w a W2) := Lib.hid (by rw [hW2]; exact HE.out)
  clear hW2
  go_upto_region 9 with (refine wpList_store_blk rfl 24 _ _ rfl W2.heap.size 24 zeroAd.cells #[.int .i64 6, .int .u8 255, .int .u8 0, .int .u8 0, .int .u8 0, .int .u8 0, .int .u8 0, .int .u8 0, .int .u8 0, .int .u8 0, .int .u8 0, .int .u8 0, .int .u8 0, .int .u8 0, .int .u8 0, .int .u8 0, .int .u8 0] rfl rfl (Blk.new _ _ _) rfl sz24 (by rw [← HSX.out]; exact one_cells _) ?_; intro W3 P3)
  have b5 : Hid (Blk W3 W2.heap.size 24 sx.cells) := Lib.hid (by rw [HSX.out]; exact P3.blk)
  have HE3 : Hid (En w.heap.size w a W3) := Lib.hid (HE.out.later (P3.below ((Below.refl _ _).alloc (Nat.le_refl _) _) (Nat.le_refl _) (by simp)))
  clear P3
  go_upto_region 10 with (refine wpList_store_blk rfl 24 _ _ rfl W3.heap.size 24 zeroAd.cells #[.int .i64 6, .int .u8 0, .int .u8 0, .int .u8 0, .int .u8 0, .int .u8 0, .int .u8 0, .int .u8 0, .int .u8 0, .int .u8 0, .int .u8 0, .int .u8 0, .int .u8 0, .int .u8 0, .int .u8 0, .int .u8 0, .int .u8 1] rfl rfl (Blk.new _ _ _) rfl sz24 (by rw [← HON.out]; exact one_cells _) ?_; intro W4 P4)
  have b6 : Hid (Blk W4 W3.heap.size 24 on.cells) := Lib.hid (by rw [HON.out]; exact P4.blk)
  have h34 : Hid (Below W3.heap.size W3 W4) := Lib.hid (P4.below ((Below.refl _ _).alloc (Nat.le_refl _) _) (Nat.le_refl _) (by simp))
  have HE4 : Hid (En w.heap.size w a W4) := Lib.hid (HE3.out.later h34.out)
  have b5' := Lib.hid (b5.out.later h34.out b5.out.lt)
  clear P4
  obtain ⟨G5, hG5⟩ : ∃ g, W2.heap.size = g := ⟨_, rfl⟩
  obtain ⟨G6, hG6⟩ : ∃ g, W3.heap.size = g := ⟨_, rfl⟩
  rw [hG5] at b5' ⊢
  rw [hG6] at b6 ⊢
  have HA : Hid (Ali w w.heap.size G5 G6 a sx on W4) := Lib.hid ⟨HE4.out.below, HE4.out.b1, b5'.out, b6.out, HE4.out.gl⟩
  simp only [Act.put]
  clear hG5 hG6 b5 b5' b6 h34 HE3 HE4 HE bk BW sW GLW
  refine region_later (by kernel_rfl) (by kernel_rfl) ?_
  repeat (first | go_big_quiet_skip | (go_big_quiet_want; first | (refine quiet_load 24 _ rfl w.heap.size 24 _ _ rfl HA.out.b1 Tryd.underlying24 rfl (szc ha) ?_; simp only [Act.put, List.setIfInBounds_toArray, List.set_cons_zero, List.set_cons_succ]; go_big_quiet_on) | (refine quiet_load 24 _ rfl G5 24 _ _ rfl HA.out.b3 Tryd.underlying24 rfl (szc hsx) ?_; simp only [Act.put, List.setIfInBounds_toArray, List.set_cons_zero, List.set_cons_succ]; go_big_quiet_on) | (refine quiet_load 24 _ rfl G6 24 _ _ rfl HA.out.b7 Tryd.underlying24 rfl (szc hon) ?_; simp only [Act.put, List.setIfInBounds_toArray, List.set_cons_zero, List.set_cons_succ]; go_big_quiet_on) | (go_big_quiet_op; first | go_big_quiet_on | go_big_quiet_call (first | (go_at_call 25; exact calls_later (HF1.out _)) | (go_at_call 20; first | (with_reducible exact calls_later (HL1.out _)) | (with_reducible exact calls_later (HL2.out _)))))))
  refine wpQuiet_nil ?_
  intro z hz
  have HA := Lib.hid (HA.out.later hz)
  clear hz
  go_wp2
  refine region_later (by kernel_rfl) (by kernel_rfl) ?_
  repeat (first | go_big_quiet_skip | (go_big_quiet_want; first | (refine quiet_load 24 _ rfl w.heap.size 24 _ _ rfl HA.out.b1 Tryd.underlying24 rfl (szc ha) ?_; simp only [Act.put, List.setIfInBounds_toArray, List.set_cons_zero, List.set_cons_succ]; go_big_quiet_on) | (refine quiet_load 24 _ rfl G5 24 _ _ rfl HA.out.b3 Tryd.underlying24 rfl (szc hsx) ?_; simp only [Act.put, List.setIfInBounds_toArray, List.set_cons_zero, List.set_cons_succ]; go_big_quiet_on) | (refine quiet_load 24 _ rfl G6 24 _ _ rfl HA.out.b7 Tryd.underlying24 rfl (szc hon) ?_; simp only [Act.put, List.setIfInBounds_toArray, List.set_cons_zero, List.set_cons_succ]; go_big_quiet_on) | (go_big_quiet_op; first | go_big_quiet_on | go_big_quiet_call (first | (go_at_call 25; exact calls_later (HF2.out _)) | (go_at_call 20; first | (with_reducible exact calls_later (HM1.out _)) | (with_reducible exact calls_later (HM2.out _)))))))
  refine wpQuiet_nil ?_
  intro z hz
  have HA := Lib.hid (HA.out.later hz)
  clear hz
  go_wp2
  refine region_later (by kernel_rfl) (by kernel_rfl) ?_
  repeat (first | go_big_quiet_skip | (go_big_quiet_want; first | (refine quiet_load 24 _ rfl w.heap.size 24 _ _ rfl HA.out.b1 Tryd.underlying24 rfl (szc ha) ?_; simp only [Act.put, List.setIfInBounds_toArray, List.set_cons_zero, List.set_cons_succ]; go_big_quiet_on) | (refine quiet_load 24 _ rfl G5 24 _ _ rfl HA.out.b3 Tryd.underlying24 rfl (szc hsx) ?_; simp only [Act.put, List.setIfInBounds_toArray, List.set_cons_zero, List.set_cons_succ]; go_big_quiet_on) | (refine quiet_load 24 _ rfl G6 24 _ _ rfl HA.out.b7 Tryd.underlying24 rfl (szc hon) ?_; simp only [Act.put, List.setIfInBounds_toArray, List.set_cons_zero, List.set_cons_succ]; go_big_quiet_on) | (go_big_quiet_op; first | go_big_quiet_on | go_big_quiet_call (first | (go_at_call 25; exact calls_later (HF3.out _)) | (go_at_call 20; first | (with_reducible exact calls_later (HZ1.out _)) | (with_reducible exact calls_later (HZ2.out _)))))))
  refine wpQuiet_nil ?_
  intro z hz
  have HA := Lib.hid (HA.out.later hz)
  clear hz
  go_wp2
  refine region_later (by kernel_rfl) (by kernel_rfl) ?_
  repeat (first | go_big_quiet_skip | (go_big_quiet_want; first | (refine quiet_load 24 _ rfl w.heap.size 24 _ _ rfl HA.out.b1 Tryd.underlying24 rfl (szc ha) ?_; simp only [Act.put, List.setIfInBounds_toArray, List.set_cons_zero, List.set_cons_succ]; go_big_quiet_on) | (refine quiet_load 24 _ rfl G5 24 _ _ rfl HA.out.b3 Tryd.underlying24 rfl (szc hsx) ?_; simp only [Act.put, List.setIfInBounds_toArray, List.set_cons_zero, List.set_cons_succ]; go_big_quiet_on) | (refine quiet_load 24 _ rfl G6 24 _ _ rfl HA.out.b7 Tryd.underlying24 rfl (szc hon) ?_; simp only [Act.put, List.setIfInBounds_toArray, List.set_cons_zero, List.set_cons_succ]; go_big_quiet_on) | (go_big_quiet_op; first | go_big_quiet_on | go_big_quiet_call (first | (go_at_call 25; exact calls_later (HF4.out _)) | (go_at_call 20; exact calls_later (HAL.out _))))))
  refine wpQuiet_nil ?_
  intro z hz
  have HA := Lib.hid (HA.out.later hz)
  clear hz
  go_wp2
  go_ret
  exact ⟨rfl, HA.out.below⟩
set_option maxRecDepth 100000 in
set_option maxHeartbeats 4000000 in
theorem kinds2 (a c1 c2 c3 c4 sx on : Addr) (ha : a.ok) (hsx : sx.ok) (hon : on.ok) (HSX : Hid (sx.cells = #[.int .i64 6, .int .u8 255, .int .u8 0, .int .u8 0, .int .u8 0, .int .u8 0, .int .u8 0, .int .u8 0, .int .u8 0, .int .u8 0, .int .u8 0, .int .u8 0, .int .u8 0, .int .u8 0, .int .u8 0, .int .u8 0, .int .u8 0])) (HON : Hid (on.cells = #[.int .i64 6, .int .u8 0, .int .u8 0, .int .u8 0, .int .u8 0, .int .u8 0, .int .u8 0, .int .u8 0, .int .u8 0, .int .u8 0, .int .u8 0, .int .u8 0, .int .u8 0, .int .u8 0, .int .u8 0, .int .u8 0, .int .u8 1])) (HK : Hid (∀ w, Calls Tryd.prog 14 #[.agg a.cells] w fun e w' => e = .returned (.int .i64 1) ∧ Below w.heap.size w w')) (HV : Hid (∀ w, Calls Tryd.prog 12 #[.agg a.cells] w fun e w' => e = .returned (.bool true) ∧ Below w.heap.size w w')) (HF1 : Hid (∀ w, Calls Tryd.prog 25 #[.int .u8 127, .int .u8 0, .int .u8 0, .int .u8 0] w fun e w' => e = .returned (.agg c1.cells) ∧ Below w.heap.size w w')) (HF2 : Hid (∀ w, Calls Tryd.prog 25 #[.int .u8 224, .int .u8 0, .int .u8 0, .int .u8 0] w fun e w' => e = .returned (.agg c2.cells) ∧ Below w.heap.size w w')) (HF3 : Hid (∀ w, Calls Tryd.prog 25 #[.int .u8 0, .int .u8 0, .int .u8 0, .int .u8 0] w fun e w' => e = .returned (.agg c3.cells) ∧ Below w.heap.size w w')) (HF4 : Hid (∀ w, Calls Tryd.prog 25 #[.int .u8 255, .int .u8 255, .int .u8 255, .int .u8 255] w fun e w' => e = .returned (.agg c4.cells) ∧ Below w.heap.size w w')) (HL1 : Hid (∀ w, Calls Tryd.prog 20 #[.agg a.cells, .agg c1.cells, .int .i64 8] w fun e w' => e = .returned (.bool false) ∧ Below w.heap.size w w')) (HL2 : Hid (∀ w, Calls Tryd.prog 20 #[.agg a.cells, .agg on.cells, .int .i64 128] w fun e w' => e = .returned (.bool false) ∧ Below w.heap.size w w')) (HM1 : Hid (∀ w, Calls Tryd.prog 20 #[.agg a.cells, .agg c2.cells, .int .i64 4] w fun e w' => e = .returned (.bool false) ∧ Below w.heap.size w w')) (HM2 : Hid (∀ w, Calls Tryd.prog 20 #[.agg a.cells, .agg sx.cells, .int .i64 8] w fun e w' => e = .returned (.bool false) ∧ Below w.heap.size w w')) (HZ1 : Hid (∀ w, Calls Tryd.prog 20 #[.agg a.cells, .agg c3.cells, .int .i64 32] w fun e w' => e = .returned (.bool true) ∧ Below w.heap.size w w')) (HZ2 : Hid (∀ w, Calls Tryd.prog 20 #[.agg a.cells, .agg #[.int .i64 6, .int .u8 0, .int .u8 0, .int .u8 0, .int .u8 0, .int .u8 0, .int .u8 0, .int .u8 0, .int .u8 0, .int .u8 0, .int .u8 0, .int .u8 0, .int .u8 0, .int .u8 0, .int .u8 0, .int .u8 0, .int .u8 0], .int .i64 128] w fun e w' => e = .returned (.bool false) ∧ Below w.heap.size w w')) (HAL : Hid (∀ w, Calls Tryd.prog 20 #[.agg a.cells, .agg c4.cells, .int .i64 32] w fun e w' => e = .returned (.bool false) ∧ Below w.heap.size w w')) (w : World) (hg : Gl w) : Calls Tryd.prog 8 #[.agg a.cells] w fun e w' => e = .returned (.bool true) ∧ Below w.heap.size w w' := by
  have HG := Lib.hid hg
  clear hg
  go_enter Tryd.func8, Tryd.ntmps8
  go_upto_region 1 with fail
  refine wp_named fun W hW => ?_
  obtain ⟨bk, BW, sW⟩ := box1 hW
  have GLW := Lib.hid (HG.out.later BW.out)
  clear hW
  have HE : Hid (En w.heap.size w a W) := Lib.hid ⟨BW.out, bk.out, GLW.out⟩
  go_upto_region 8 with (first | (refine wpList_load_blk rfl 24 _ rfl w.heap.size 24 _ _ rfl HE.out.b1 Tryd.underlying24 rfl (by as_aux_lemma => exact szc ha) ?_) | (go_at_call 9; (first | (with_reducible refine (alive_calls _ HE.out.gl).mono ?_)); rintro e W9 ⟨rfl, hB9⟩; have HE := Lib.hid (HE.out.later hB9); clear hB9) | (go_at_call 14; (first | (with_reducible refine (HK.out _).mono ?_)); rintro e W9 ⟨rfl, hB9⟩; have HE := Lib.hid (HE.out.later hB9); clear hB9) | (go_at_call 12; (first | (with_reducible refine (HV.out _).mono ?_)); rintro e W9 ⟨rfl, hB9⟩; have HE := Lib.hid (HE.out.later hB9); clear hB9))
  refine wp_named fun W2 hW2 => ?_
  have HE : Hid (En w.heap.size w a W2) := Lib.hid (by rw [hW2]; exact HE.out)
  clear hW2
  go_upto_region 9 with (refine wpList_store_blk rfl 24 _ _ rfl W2.heap.size 24 zeroAd.cells #[.int .i64 6, .int .u8 255, .int .u8 0, .int .u8 0, .int .u8 0, .int .u8 0, .int .u8 0, .int .u8 0, .int .u8 0, .int .u8 0, .int .u8 0, .int .u8 0, .int .u8 0, .int .u8 0, .int .u8 0, .int .u8 0, .int .u8 0] rfl rfl (Blk.new _ _ _) rfl sz24 (by rw [← HSX.out]; exact one_cells _) ?_; intro W3 P3)
  have b5 : Hid (Blk W3 W2.heap.size 24 sx.cells) := Lib.hid (by rw [HSX.out]; exact P3.blk)
  have HE3 : Hid (En w.heap.size w a W3) := Lib.hid (HE.out.later (P3.below ((Below.refl _ _).alloc (Nat.le_refl _) _) (Nat.le_refl _) (by simp)))
  clear P3
  go_upto_region 10 with (refine wpList_store_blk rfl 24 _ _ rfl W3.heap.size 24 zeroAd.cells #[.int .i64 6, .int .u8 0, .int .u8 0, .int .u8 0, .int .u8 0, .int .u8 0, .int .u8 0, .int .u8 0, .int .u8 0, .int .u8 0, .int .u8 0, .int .u8 0, .int .u8 0, .int .u8 0, .int .u8 0, .int .u8 0, .int .u8 1] rfl rfl (Blk.new _ _ _) rfl sz24 (by rw [← HON.out]; exact one_cells _) ?_; intro W4 P4)
  have b6 : Hid (Blk W4 W3.heap.size 24 on.cells) := Lib.hid (by rw [HON.out]; exact P4.blk)
  have h34 : Hid (Below W3.heap.size W3 W4) := Lib.hid (P4.below ((Below.refl _ _).alloc (Nat.le_refl _) _) (Nat.le_refl _) (by simp))
  have HE4 : Hid (En w.heap.size w a W4) := Lib.hid (HE3.out.later h34.out)
  have b5' := Lib.hid (b5.out.later h34.out b5.out.lt)
  clear P4
  obtain ⟨G5, hG5⟩ : ∃ g, W2.heap.size = g := ⟨_, rfl⟩
  obtain ⟨G6, hG6⟩ : ∃ g, W3.heap.size = g := ⟨_, rfl⟩
  rw [hG5] at b5' ⊢
  rw [hG6] at b6 ⊢
  have HA : Hid (Ali w w.heap.size G5 G6 a sx on W4) := Lib.hid ⟨HE4.out.below, HE4.out.b1, b5'.out, b6.out, HE4.out.gl⟩
  simp only [Act.put]
  clear hG5 hG6 b5 b5' b6 h34 HE3 HE4 HE bk BW sW GLW
  refine region_later (by kernel_rfl) (by kernel_rfl) ?_
  repeat (first | go_big_quiet_skip | (go_big_quiet_want; first | (refine quiet_load 24 _ rfl w.heap.size 24 _ _ rfl HA.out.b1 Tryd.underlying24 rfl (szc ha) ?_; simp only [Act.put, List.setIfInBounds_toArray, List.set_cons_zero, List.set_cons_succ]; go_big_quiet_on) | (refine quiet_load 24 _ rfl G5 24 _ _ rfl HA.out.b3 Tryd.underlying24 rfl (szc hsx) ?_; simp only [Act.put, List.setIfInBounds_toArray, List.set_cons_zero, List.set_cons_succ]; go_big_quiet_on) | (refine quiet_load 24 _ rfl G6 24 _ _ rfl HA.out.b7 Tryd.underlying24 rfl (szc hon) ?_; simp only [Act.put, List.setIfInBounds_toArray, List.set_cons_zero, List.set_cons_succ]; go_big_quiet_on) | (go_big_quiet_op; first | go_big_quiet_on | go_big_quiet_call (first | (go_at_call 25; exact calls_later (HF1.out _)) | (go_at_call 20; first | (with_reducible exact calls_later (HL1.out _)) | (with_reducible exact calls_later (HL2.out _)))))))
  refine wpQuiet_nil ?_
  intro z hz
  have HA := Lib.hid (HA.out.later hz)
  clear hz
  go_wp2
  refine region_later (by kernel_rfl) (by kernel_rfl) ?_
  repeat (first | go_big_quiet_skip | (go_big_quiet_want; first | (refine quiet_load 24 _ rfl w.heap.size 24 _ _ rfl HA.out.b1 Tryd.underlying24 rfl (szc ha) ?_; simp only [Act.put, List.setIfInBounds_toArray, List.set_cons_zero, List.set_cons_succ]; go_big_quiet_on) | (refine quiet_load 24 _ rfl G5 24 _ _ rfl HA.out.b3 Tryd.underlying24 rfl (szc hsx) ?_; simp only [Act.put, List.setIfInBounds_toArray, List.set_cons_zero, List.set_cons_succ]; go_big_quiet_on) | (refine quiet_load 24 _ rfl G6 24 _ _ rfl HA.out.b7 Tryd.underlying24 rfl (szc hon) ?_; simp only [Act.put, List.setIfInBounds_toArray, List.set_cons_zero, List.set_cons_succ]; go_big_quiet_on) | (go_big_quiet_op; first | go_big_quiet_on | go_big_quiet_call (first | (go_at_call 25; exact calls_later (HF2.out _)) | (go_at_call 20; first | (with_reducible exact calls_later (HM1.out _)) | (with_reducible exact calls_later (HM2.out _)))))))
  refine wpQuiet_nil ?_
  intro z hz
  have HA := Lib.hid (HA.out.later hz)
  clear hz
  go_wp2
  refine region_later (by kernel_rfl) (by kernel_rfl) ?_
  repeat (first | go_big_quiet_skip | (go_big_quiet_want; first | (refine quiet_load 24 _ rfl w.heap.size 24 _ _ rfl HA.out.b1 Tryd.underlying24 rfl (szc ha) ?_; simp only [Act.put, List.setIfInBounds_toArray, List.set_cons_zero, List.set_cons_succ]; go_big_quiet_on) | (refine quiet_load 24 _ rfl G5 24 _ _ rfl HA.out.b3 Tryd.underlying24 rfl (szc hsx) ?_; simp only [Act.put, List.setIfInBounds_toArray, List.set_cons_zero, List.set_cons_succ]; go_big_quiet_on) | (refine quiet_load 24 _ rfl G6 24 _ _ rfl HA.out.b7 Tryd.underlying24 rfl (szc hon) ?_; simp only [Act.put, List.setIfInBounds_toArray, List.set_cons_zero, List.set_cons_succ]; go_big_quiet_on) | (go_big_quiet_op; first | go_big_quiet_on | go_big_quiet_call (first | (go_at_call 25; exact calls_later (HF3.out _)) | (go_at_call 20; first | (with_reducible exact calls_later (HZ1.out _)) | (with_reducible exact calls_later (HZ2.out _)))))))
  refine wpQuiet_nil ?_
  intro z hz
  have HA := Lib.hid (HA.out.later hz)
  clear hz
  go_wp2
  refine region_later (by kernel_rfl) (by kernel_rfl) ?_
  repeat (first | go_big_quiet_skip | (go_big_quiet_want; first | (refine quiet_load 24 _ rfl w.heap.size 24 _ _ rfl HA.out.b1 Tryd.underlying24 rfl (szc ha) ?_; simp only [Act.put, List.setIfInBounds_toArray, List.set_cons_zero, List.set_cons_succ]; go_big_quiet_on) | (refine quiet_load 24 _ rfl G5 24 _ _ rfl HA.out.b3 Tryd.underlying24 rfl (szc hsx) ?_; simp only [Act.put, List.setIfInBounds_toArray, List.set_cons_zero, List.set_cons_succ]; go_big_quiet_on) | (refine quiet_load 24 _ rfl G6 24 _ _ rfl HA.out.b7 Tryd.underlying24 rfl (szc hon) ?_; simp only [Act.put, List.setIfInBounds_toArray, List.set_cons_zero, List.set_cons_succ]; go_big_quiet_on) | (go_big_quiet_op; first | go_big_quiet_on | go_big_quiet_call (first | (go_at_call 25; exact calls_later (HF4.out _)) | (go_at_call 20; exact calls_later (HAL.out _))))))
  refine wpQuiet_nil ?_
  intro z hz
  have HA := Lib.hid (HA.out.later hz)
  clear hz
  go_wp2
  go_ret
  exact ⟨rfl, HA.out.below⟩
set_option maxRecDepth 100000 in
set_option maxHeartbeats 4000000 in
theorem kinds3 (a c1 c2 c3 c4 sx on : Addr) (ha : a.ok) (hsx : sx.ok) (hon : on.ok) (HSX : Hid (sx.cells = #[.int .i64 6, .int .u8 255, .int .u8 0, .int .u8 0, .int .u8 0, .int .u8 0, .int .u8 0, .int .u8 0, .int .u8 0, .int .u8 0, .int .u8 0, .int .u8 0, .int .u8 0, .int .u8 0, .int .u8 0, .int .u8 0, .int .u8 0])) (HON : Hid (on.cells = #[.int .i64 6, .int .u8 0, .int .u8 0, .int .u8 0, .int .u8 0, .int .u8 0, .int .u8 0, .int .u8 0, .int .u8 0, .int .u8 0, .int .u8 0, .int .u8 0, .int .u8 0, .int .u8 0, .int .u8 0, .int .u8 0, .int .u8 1])) (HK : Hid (∀ w, Calls Tryd.prog 14 #[.agg a.cells] w fun e w' => e = .returned (.int .i64 4) ∧ Below w.heap.size w w')) (HV : Hid (∀ w, Calls Tryd.prog 12 #[.agg a.cells] w fun e w' => e = .returned (.bool true) ∧ Below w.heap.size w w')) (HF1 : Hid (∀ w, Calls Tryd.prog 25 #[.int .u8 127, .int .u8 0, .int .u8 0, .int .u8 0] w fun e w' => e = .returned (.agg c1.cells) ∧ Below w.heap.size w w')) (HF2 : Hid (∀ w, Calls Tryd.prog 25 #[.int .u8 224, .int .u8 0, .int .u8 0, .int .u8 0] w fun e w' => e = .returned (.agg c2.cells) ∧ Below w.heap.size w w')) (HF3 : Hid (∀ w, Calls Tryd.prog 25 #[.int .u8 0, .int .u8 0, .int .u8 0, .int .u8 0] w fun e w' => e = .returned (.agg c3.cells) ∧ Below w.heap.size w w')) (HF4 : Hid (∀ w, Calls Tryd.prog 25 #[.int .u8 255, .int .u8 255, .int .u8 255, .int .u8 255] w fun e w' => e = .returned (.agg c4.cells) ∧ Below w.heap.size w w')) (HL1 : Hid (∀ w, Calls Tryd.prog 20 #[.agg a.cells, .agg c1.cells, .int .i64 8] w fun e w' => e = .returned (.bool false) ∧ Below w.heap.size w w')) (HL2 : Hid (∀ w, Calls Tryd.prog 20 #[.agg a.cells, .agg on.cells, .int .i64 128] w fun e w' => e = .returned (.bool false) ∧ Below w.heap.size w w')) (HM1 : Hid (∀ w, Calls Tryd.prog 20 #[.agg a.cells, .agg c2.cells, .int .i64 4] w fun e w' => e = .returned (.bool false) ∧ Below w.heap.size w w')) (HM2 : Hid (∀ w, Calls Tryd.prog 20 #[.agg a.cells, .agg sx.cells, .int .i64 8] w fun e w' => e = .returned (.bool false) ∧ Below w.heap.size w w')) (HZ1 : Hid (∀ w, Calls Tryd.prog 20 #[.agg a.cells, .agg c3.cells, .int .i64 32] w fun e w' => e = .returned (.bool false) ∧ Below w.heap.size w w')) (HZ2 : Hid (∀ w, Calls Tryd.prog 20 #[.agg a.cells, .agg #[.int .i64 6, .int .u8 0, .int .u8 0, .int .u8 0, .int .u8 0, .int .u8 0, .int .u8 0, .int .u8 0, .int .u8 0, .int .u8 0, .int .u8 0, .int .u8 0, .int .u8 0, .int .u8 0, .int .u8 0, .int .u8 0, .int .u8 0], .int .i64 128] w fun e w' => e = .returned (.bool false) ∧ Below w.heap.size w w')) (HAL : Hid (∀ w, Calls Tryd.prog 20 #[.agg a.cells, .agg c4.cells, .int .i64 32] w fun e w' => e = .returned (.bool true) ∧ Below w.heap.size w w')) (w : World) (hg : Gl w) : Calls Tryd.prog 8 #[.agg a.cells] w fun e w' => e = .returned (.bool true) ∧ Below w.heap.size w w' := by
  have HG := Lib.hid hg
  clear hg
  go_enter Tryd.func8, Tryd.ntmps8
  go_upto_region 1 with fail
  refine wp_named fun W hW => ?_
  obtain ⟨bk, BW, sW⟩ := box1 hW
  have GLW := Lib.hid (HG.out.later BW.out)
  clear hW
  have HE : Hid (En w.heap.size w a W) := Lib.hid ⟨BW.out, bk.out, GLW.out⟩
  go_upto_region 8 with (first | (refine wpList_load_blk rfl 24 _ rfl w.heap.size 24 _ _ rfl HE.out.b1 Tryd.underlying24 rfl (by as_aux_lemma => exact szc ha) ?_) | (go_at_call 9; (first | (with_reducible refine (alive_calls _ HE.out.gl).mono ?_)); rintro e W9 ⟨rfl, hB9⟩; have HE := Lib.hid (HE.out.later hB9); clear hB9) | (go_at_call 14; (first | (with_reducible refine (HK.out _).mono ?_)); rintro e W9 ⟨rfl, hB9⟩; have HE := Lib.hid (HE.out.later hB9); clear hB9) | (go_at_call 12; (first | (with_reducible refine (HV.out _).mono ?_)); rintro e W9 ⟨rfl, hB9⟩; have HE := Lib.hid (HE.out.later hB9); clear hB9))
  refine wp_named fun W2 hW2 => ?_
  have HE : Hid (En w.heap.size w a W2) := Lib.hid (by rw [hW2]; exact HE.out)
  clear hW2
  go_upto_region 9 with (refine wpList_store_blk rfl 24 _ _ rfl W2.heap.size 24 zeroAd.cells #[.int .i64 6, .int .u8 255, .int .u8 0, .int .u8 0, .int .u8 0, .int .u8 0, .int .u8 0, .int .u8 0, .int .u8 0, .int .u8 0, .int .u8 0, .int .u8 0, .int .u8 0, .int .u8 0, .int .u8 0, .int .u8 0, .int .u8 0] rfl rfl (Blk.new _ _ _) rfl sz24 (by rw [← HSX.out]; exact one_cells _) ?_; intro W3 P3)
  have b5 : Hid (Blk W3 W2.heap.size 24 sx.cells) := Lib.hid (by rw [HSX.out]; exact P3.blk)
  have HE3 : Hid (En w.heap.size w a W3) := Lib.hid (HE.out.later (P3.below ((Below.refl _ _).alloc (Nat.le_refl _) _) (Nat.le_refl _) (by simp)))
  clear P3
  go_upto_region 10 with (refine wpList_store_blk rfl 24 _ _ rfl W3.heap.size 24 zeroAd.cells #[.int .i64 6, .int .u8 0, .int .u8 0, .int .u8 0, .int .u8 0, .int .u8 0, .int .u8 0, .int .u8 0, .int .u8 0, .int .u8 0, .int .u8 0, .int .u8 0, .int .u8 0, .int .u8 0, .int .u8 0, .int .u8 0, .int .u8 1] rfl rfl (Blk.new _ _ _) rfl sz24 (by rw [← HON.out]; exact one_cells _) ?_; intro W4 P4)
  have b6 : Hid (Blk W4 W3.heap.size 24 on.cells) := Lib.hid (by rw [HON.out]; exact P4.blk)
  have h34 : Hid (Below W3.heap.size W3 W4) := Lib.hid (P4.below ((Below.refl _ _).alloc (Nat.le_refl _) _) (Nat.le_refl _) (by simp))
  have HE4 : Hid (En w.heap.size w a W4) := Lib.hid (HE3.out.later h34.out)
  have b5' := Lib.hid (b5.out.later h34.out b5.out.lt)
  clear P4
  obtain ⟨G5, hG5⟩ : ∃ g, W2.heap.size = g := ⟨_, rfl⟩
  obtain ⟨G6, hG6⟩ : ∃ g, W3.heap.size = g := ⟨_, rfl⟩
  rw [hG5] at b5' ⊢
  rw [hG6] at b6 ⊢
  have HA : Hid (Ali w w.heap.size G5 G6 a sx on W4) := Lib.hid ⟨HE4.out.below, HE4.out.b1, b5'.out, b6.out, HE4.out.gl⟩
  simp only [Act.put]
  clear hG5 hG6 b5 b5' b6 h34 HE3 HE4 HE bk BW sW GLW
  refine region_later (by kernel_rfl) (by kernel_rfl) ?_
  repeat (first | go_big_quiet_skip | (go_big_quiet_want; first | (refine quiet_load 24 _ rfl w.heap.size 24 _ _ rfl HA.out.b1 Tryd.underlying24 rfl (szc ha) ?_; simp only [Act.put, List.setIfInBounds_toArray, List.set_cons_zero, List.set_cons_succ]; go_big_quiet_on) | (refine quiet_load 24 _ rfl G5 24 _ _ rfl HA.out.b3 Tryd.underlying24 rfl (szc hsx) ?_; simp only [Act.put, List.setIfInBounds_toArray, List.set_cons_zero, List.set_cons_succ]; go_big_quiet_on) | (refine quiet_load 24 _ rfl G6 24 _ _ rfl HA.out.b7 Tryd.underlying24 rfl (szc hon) ?_; simp only [Act.put, List.setIfInBounds_toArray, List.set_cons_zero, List.set_cons_succ]; go_big_quiet_on) | (go_big_quiet_op; first | go_big_quiet_on | go_big_quiet_call (first | (go_at_call 25; exact calls_later (HF1.out _)) | (go_at_call 20; first | (with_reducible exact calls_later (HL1.out _)) | (with_reducible exact calls_later (HL2.out _)))))))
  refine wpQuiet_nil ?_
  intro z hz
  have HA := Lib.hid (HA.out.later hz)
  clear hz
  go_wp2
  refine region_later (by kernel_rfl) (by kernel_rfl) ?_
  repeat (first | go_big_quiet_skip | (go_big_quiet_want; first | (refine quiet_load 24 _ rfl w.heap.size 24 _ _ rfl HA.out.b1 Tryd.underlying24 rfl (szc ha) ?_; simp only [Act.put, List.setIfInBounds_toArray, List.set_cons_zero, List.set_cons_succ]; go_big_quiet_on) | (refine quiet_load 24 _ rfl G5 24 _ _ rfl HA.out.b3 Tryd.underlying24 rfl (szc hsx) ?_; simp only [Act.put, List.setIfInBounds_toArray, List.set_cons_zero, List.set_cons_succ]; go_big_quiet_on) | (refine quiet_load 24 _ rfl G6 24 _ _ rfl HA.out.b7 Tryd.underlying24 rfl (szc hon) ?_; simp only [Act.put, List.setIfInBounds_toArray, List.set_cons_zero, List.set_cons_succ]; go_big_quiet_on) | (go_big_quiet_op; first | go_big_quiet_on | go_big_quiet_call (first | (go_at_call 25; exact calls_later (HF2.out _)) | (go_at_call 20; first | (with_reducible exact calls_later (HM1.out _)) | (with_reducible exact calls_later (HM2.out _)))))))
  refine wpQuiet_nil ?_
  intro z hz
  have HA := Lib.hid (HA.out.later hz)
  clear hz
  go_wp2
  refine region_later (by kernel_rfl) (by kernel_rfl) ?_
  repeat (first | go_big_quiet_skip | (go_big_quiet_want; first | (refine quiet_load 24 _ rfl w.heap.size 24 _ _ rfl HA.out.b1 Tryd.underlying24 rfl (szc ha) ?_; simp only [Act.put, List.setIfInBounds_toArray, List.set_cons_zero, List.set_cons_succ]; go_big_quiet_on) | (refine quiet_load 24 _ rfl G5 24 _ _ rfl HA.out.b3 Tryd.underlying24 rfl (szc hsx) ?_; simp only [Act.put, List.setIfInBounds_toArray, List.set_cons_zero, List.set_cons_succ]; go_big_quiet_on) | (refine quiet_load 24 _ rfl G6 24 _ _ rfl HA.out.b7 Tryd.underlying24 rfl (szc hon) ?_; simp only [Act.put, List.setIfInBounds_toArray, List.set_cons_zero, List.set_cons_succ]; go_big_quiet_on) | (go_big_quiet_op; first | go_big_quiet_on | go_big_quiet_call (first | (go_at_call 25; exact calls_later (HF3.out _)) | (go_at_call 20; first | (with_reducible exact calls_later (HZ1.out _)) | (with_reducible exact calls_later (HZ2.out _)))))))
  refine wpQuiet_nil ?_
  intro z hz
  have HA := Lib.hid (HA.out.later hz)
  clear hz
  go_wp2
  refine region_later (by kernel_rfl) (by kernel_rfl) ?_
  repeat (first | go_big_quiet_skip | (go_big_quiet_want; first | (refine quiet_load 24 _ rfl w.heap.size 24 _ _ rfl HA.out.b1 Tryd.underlying24 rfl (szc ha) ?_; simp only [Act.put, List.setIfInBounds_toArray, List.set_cons_zero, List.set_cons_succ]; go_big_quiet_on) | (refine quiet_load 24 _ rfl G5 24 _ _ rfl HA.out.b3 Tryd.underlying24 rfl (szc hsx) ?_; simp only [Act.put, List.setIfInBounds_toArray, List.set_cons_zero, List.set_cons_succ]; go_big_quiet_on) | (refine quiet_load 24 _ rfl G6 24 _ _ rfl HA.out.b7 Tryd.underlying24 rfl (szc hon) ?_; simp only [Act.put, List.setIfInBounds_toArray, List.set_cons_zero, List.set_cons_succ]; go_big_quiet_on) | (go_big_quiet_op; first | go_big_quiet_on | go_big_quiet_call (first | (go_at_call 25; exact calls_later (HF4.out _)) | (go_at_call 20; exact calls_later (HAL.out _))))))
  refine wpQuiet_nil ?_
  intro z hz
  have HA := Lib.hid (HA.out.later hz)
  clear hz
  go_wp2
  go_ret
  exact ⟨rfl, HA.out.below⟩
set_option maxRecDepth 100000 in
set_option maxHeartbeats 4000000 in
theorem kinds4 (a c1 c2 c3 c4 sx on : Addr) (ha : a.ok) (hsx : sx.ok) (hon : on.ok) (HSX : Hid (sx.cells = #[.int .i64 6, .int .u8 255, .int .u8 0, .int .u8 0, .int .u8 0, .int .u8 0, .int .u8 0, .int .u8 0, .int .u8 0, .int .u8 0, .int .u8 0, .int .u8 0, .int .u8 0, .int .u8 0, .int .u8 0, .int .u8 0, .int .u8 0])) (HON : Hid (on.cells = #[.int .i64 6, .int .u8 0, .int .u8 0, .int .u8 0, .int .u8 0, .int .u8 0, .int .u8 0, .int .u8 0, .int .u8 0, .int .u8 0, .int .u8 0, .int .u8 0, .int .u8 0, .int .u8 0, .int .u8 0, .int .u8 0, .int .u8 1])) (HK : Hid (∀ w, Calls Tryd.prog 14 #[.agg a.cells] w fun e w' => e = .returned (.int .i64 5) ∧ Below w.heap.size w w')) (HV : Hid (∀ w, Calls Tryd.prog 12 #[.agg a.cells] w fun e w' => e = .returned (.bool true) ∧ Below w.heap.size w w')) (HF1 : Hid (∀ w, Calls Tryd.prog 25 #[.int .u8 127, .int .u8 0, .int .u8 0, .int .u8 0] w fun e w' => e = .returned (.agg c1.cells) ∧ Below w.heap.size w w')) (HF2 : Hid (∀ w, Calls Tryd.prog 25 #[.int .u8 224, .int .u8 0, .int .u8 0, .int .u8 0] w fun e w' => e = .returned (.agg c2.cells) ∧ Below w.heap.size w w')) (HF3 : Hid (∀ w, Calls Tryd.prog 25 #[.int .u8 0, .int .u8 0, .int .u8 0, .int .u8 0] w fun e w' => e = .returned (.agg c3.cells) ∧ Below w.heap.size w w')) (HF4 : Hid (∀ w, Calls Tryd.prog 25 #[.int .u8 255, .int .u8 255, .int .u8 255, .int .u8 255] w fun e w' => e = .returned (.agg c4.cells) ∧ Below w.heap.size w w')) (HL1 : Hid (∀ w, Calls Tryd.prog 20 #[.agg a.cells, .agg c1.cells, .int .i64 8] w fun e w' => e = .returned (.bool false) ∧ Below w.heap.size w w')) (HL2 : Hid (∀ w, Calls Tryd.prog 20 #[.agg a.cells, .agg on.cells, .int .i64 128] w fun e w' => e = .returned (.bool false) ∧ Below w.heap.size w w')) (HM1 : Hid (∀ w, Calls Tryd.prog 20 #[.agg a.cells, .agg c2.cells, .int .i64 4] w fun e w' => e = .returned (.bool false) ∧ Below w.heap.size w w')) (HM2 : Hid (∀ w, Calls Tryd.prog 20 #[.agg a.cells, .agg sx.cells, .int .i64 8] w fun e w' => e = .returned (.bool false) ∧ Below w.heap.size w w')) (HZ1 : Hid (∀ w, Calls Tryd.prog 20 #[.agg a.cells, .agg c3.cells, .int .i64 32] w fun e w' => e = .returned (.bool false) ∧ Below w.heap.size w w')) (HZ2 : Hid (∀ w, Calls Tryd.prog 20 #[.agg a.cells, .agg #[.int .i64 6, .int .u8 0, .int .u8 0, .int .u8 0, .int .u8 0, .int .u8 0, .int .u8 0, .int .u8 0, .int .u8 0, .int .u8 0, .int .u8 0, .int .u8 0, .int .u8 0, .int .u8 0, .int .u8 0, .int .u8 0, .int .u8 0], .int .i64 128] w fun e w' => e = .returned (.bool false) ∧ Below w.heap.size w w')) (HAL : Hid (∀ w, Calls Tryd.prog 20 #[.agg a.cells, .agg c4.cells, .int .i64 32] w fun e w' => e = .returned (.bool false) ∧ Below w.heap.size w w')) (w : World) (hg : Gl w) : Calls Tryd.prog 8 #[.agg a.cells] w fun e w' => e = .returned (.bool true) ∧ Below w.heap.size w w' := by
  have HG := Lib.hid hg
  clear hg
  go_enter Tryd.func8, Tryd.ntmps8
  go_upto_region 1 with fail
  refine wp_named fun W hW => ?_
  obtain ⟨bk, BW, sW⟩ := box1 hW
  have GLW := Lib.hid (HG.out.later BW.out)
  clear hW
  have HE : Hid (En w.heap.size w a W) := Lib.hid ⟨BW.out, bk.out, GLW.out⟩
  go_upto_region 8 with (first | (refine wpList_load_blk rfl 24 _ rfl w.heap.size 24 _ _ rfl HE.out.b1 Tryd.underlying24 rfl (by as_aux_lemma => exact szc ha) ?_) | (go_at_call 9; (first | (with_reducible refine (alive_calls _ HE.out.gl).mono ?_)); rintro e W9 ⟨rfl, hB9⟩; have HE := Lib.hid (HE.out.later hB9); clear hB9) | (go_at_call 14; (first | (with_reducible refine (HK.out _).mono ?_)); rintro e W9 ⟨rfl, hB9⟩; have HE := Lib.hid (HE.out.later hB9); clear hB9) | (go_at_call 12; (first | (with_reducible refine (HV.out _).mono ?_)); rintro e W9 ⟨rfl, hB9⟩; have HE := Lib.hid (HE.out.later hB9); clear hB9))
  refine wp_named fun W2 hW2 => ?_
  have HE : Hid (En w.heap.size w a W2) := Lib.hid (by rw [hW2]; exact HE.out)
  clear hW2
  go_upto_region 9 with (refine wpList_store_blk rfl 24 _ _ rfl W2.heap.size 24 zeroAd.cells #[.int .i64 6, .int .u8 255, .int .u8 0, .int .u8 0, .int .u8 0, .int .u8 0, .int .u8 0, .int .u8 0, .int .u8 0, .int .u8 0, .int .u8 0, .int .u8 0, .int .u8 0, .int .u8 0, .int .u8 0, .int .u8 0, .int .u8 0] rfl rfl (Blk.new _ _ _) rfl sz24 (by rw [← HSX.out]; exact one_cells _) ?_; intro W3 P3)
  have b5 : Hid (Blk W3 W2.heap.size 24 sx.cells) := Lib.hid (by rw [HSX.out]; exact P3.blk)
  have HE3 : Hid (En w.heap.size w a W3) := Lib.hid (HE.out.later (P3.below ((Below.refl _ _).alloc (Nat.le_refl _) _) (Nat.le_refl _) (by simp)))
  clear P3
  go_upto_region 10 with (refine wpList_store_blk rfl 24 _ _ rfl W3.heap.size 24 zeroAd.cells #[.int .i64 6, .int .u8 0, .int .u8 0, .int .u8 0, .int .u8 0, .int .u8 0, .int .u8 0, .int .u8 0, .int .u8 0, .int .u8 0, .int .u8 0, .int .u8 0, .int .u8 0, .int .u8 0, .int .u8 0, .int .u8 0, .int .u8 1] rfl rfl (Blk.new _ _ _) rfl sz24 (by rw [← HON.out]; exact one_cells _) ?_; intro W4 P4)
  have b6 : Hid (Blk W4 W3.heap.size 24 on.cells) := Lib.hid (by rw [HON.out]; exact P4.blk)
  have h34 : Hid (Below W3.heap.size W3 W4) := Lib.hid (P4.below ((Below.refl _ _).alloc (Nat.le_refl _) _) (Nat.le_refl _) (by simp))
  have HE4 : Hid (En w.heap.size w a W4) := Lib.hid (HE3.out.later h34.out)
  have b5' := Lib.hid (b5.out.later h34.out b5.out.lt)
  clear P4
  obtain ⟨G5, hG5⟩ : ∃ g, W2.heap.size = g := ⟨_, rfl⟩
  obtain ⟨G6, hG6⟩ : ∃ g, W3.heap.size = g := ⟨_, rfl⟩
  rw [hG5] at b5' ⊢
  rw [hG6] at b6 ⊢
  have HA : Hid (Ali w w.heap.size G5 G6 a sx on W4) := Lib.hid ⟨HE4.out.below, HE4.out.b1, b5'.out, b6.out, HE4.out.gl⟩
  simp only [Act.put]
  clear hG5 hG6 b5 b5' b6 h34 HE3 HE4 HE bk BW sW GLW
  refine region_later (by kernel_rfl) (by kernel_rfl) ?_
  repeat (first | go_big_quiet_skip | (go_big_quiet_want; first | (refine quiet_load 24 _ rfl w.heap.size 24 _ _ rfl HA.out.b1 Tryd.underlying24 rfl (szc ha) ?_; simp only [Act.put, List.setIfInBounds_toArray, List.set_cons_zero, List.set_cons_succ]; go_big_quiet_on) | (refine quiet_load 24 _ rfl G5 24 _ _ rfl HA.out.b3 Tryd.underlying24 rfl (szc hsx) ?_; simp only [Act.put, List.setIfInBounds_toArray, List.set_cons_zero, List.set_cons_succ]; go_big_quiet_on) | (refine quiet_load 24 _ rfl G6 24 _ _ rfl HA.out.b7 Tryd.underlying24 rfl (szc hon) ?_; simp only [Act.put, List.setIfInBounds_toArray, List.set_cons_zero, List.set_cons_succ]; go_big_quiet_on) | (go_big_quiet_op; first | go_big_quiet_on | go_big_quiet_call (first | (go_at_call 25; exact calls_later (HF1.out _)) | (go_at_call 20; first | (with_reducible exact calls_later (HL1.out _)) | (with_reducible exact calls_later (HL2.out _)))))))
  refine wpQuiet_nil ?_
  intro z hz
  have HA := Lib.hid (HA.out.later hz)
  clear hz
  go_wp2
  refine region_later (by kernel_rfl) (by kernel_rfl) ?_
  repeat (first | go_big_quiet_skip | (go_big_quiet_want; first | (refine quiet_load 24 _ rfl w.heap.size 24 _ _ rfl HA.out.b1 Tryd.underlying24 rfl (szc ha) ?_; simp only [Act.put, List.setIfInBounds_toArray, List.set_cons_zero, List.set_cons_succ]; go_big_quiet_on) | (refine quiet_load 24 _ rfl G5 24 _ _ rfl HA.out.b3 Tryd.underlying24 rfl (szc hsx) ?_; simp only [Act.put, List.setIfInBounds_toArray, List.set_cons_zero, List.set_cons_succ]; go_big_quiet_on) | (refine quiet_load 24 _ rfl G6 24 _ _ rfl HA.out.b7 Tryd.underlying24 rfl (szc hon) ?_; simp only [Act.put, List.setIfInBounds_toArray, List.set_cons_zero, List.set_cons_succ]; go_big_quiet_on) | (go_big_quiet_op; first | go_big_quiet_on | go_big_quiet_call (first | (go_at_call 25; exact calls_later (HF2.out _)) | (go_at_call 20; first | (with_reducible exact calls_later (HM1.out _)) | (with_reducible exact calls_later (HM2.out _)))))))
  refine wpQuiet_nil ?_
  intro z hz
  have HA := Lib.hid (HA.out.later hz)
  clear hz
  go_wp2
  refine region_later (by kernel_rfl) (by kernel_rfl) ?_
  repeat (first | go_big_quiet_skip | (go_big_quiet_want; first | (refine quiet_load 24 _ rfl w.heap.size 24 _ _ rfl HA.out.b1 Tryd.underlying24 rfl (szc ha) ?_; simp only [Act.put, List.setIfInBounds_toArray, List.set_cons_zero, List.set_cons_succ]; go_big_quiet_on) | (refine quiet_load 24 _ rfl G5 24 _ _ rfl HA.out.b3 Tryd.underlying24 rfl (szc hsx) ?_; simp only [Act.put, List.setIfInBounds_toArray, List.set_cons_zero, List.set_cons_succ]; go_big_quiet_on) | (refine quiet_load 24 _ rfl G6 24 _ _ rfl HA.out.b7 Tryd.underlying24 rfl (szc hon) ?_; simp only [Act.put, List.setIfInBounds_toArray, List.set_cons_zero, List.set_cons_succ]; go_big_quiet_on) | (go_big_quiet_op; first | go_big_quiet_on | go_big_quiet_call (first | (go_at_call 25; exact calls_later (HF3.out _)) | (go_at_call 20; first | (with_reducible exact calls_later (HZ1.out _)) | (with_reducible exact calls_later (HZ2.out _)))))))
  refine wpQuiet_nil ?_
  intro z hz
  have HA := Lib.hid (HA.out.later hz)
  clear hz
  go_wp2
  refine region_later (by kernel_rfl) (by kernel_rfl) ?_
  repeat (first | go_big_quiet_skip | (go_big_quiet_want; first | (refine quiet_load 24 _ rfl w.heap.size 24 _ _ rfl HA.out.b1 Tryd.underlying24 rfl (szc ha) ?_; simp only [Act.put, List.setIfInBounds_toArray, List.set_cons_zero, List.set_cons_succ]; go_big_quiet_on) | (refine quiet_load 24 _ rfl G5 24 _ _ rfl HA.out.b3 Tryd.underlying24 rfl (szc hsx) ?_; simp only [Act.put, List.setIfInBounds_toArray, List.set_cons_zero, List.set_cons_succ]; go_big_quiet_on) | (refine quiet_load 24 _ rfl G6 24 _ _ rfl HA.out.b7 Tryd.underlying24 rfl (szc hon) ?_; simp only [Act.put, List.setIfInBounds_toArray, List.set_cons_zero, List.set_cons_succ]; go_big_quiet_on) | (go_big_quiet_op; first | go_big_quiet_on | go_big_quiet_call (first | (go_at_call 25; exact calls_later (HF4.out _)) | (go_at_call 20; exact calls_later (HAL.out _))))))
  refine wpQuiet_nil ?_
  intro z hz
  have HA := Lib.hid (HA.out.later hz)
  clear hz
  go_wp2
  go_ret
  exact ⟨rfl, HA.out.below⟩
set_option maxRecDepth 100000 in
set_option maxHeartbeats 4000000 in
theorem kinds5 (a c1 c2 c3 c4 sx on : Addr) (ha : a.ok) (hsx : sx.ok) (hon : on.ok) (HSX : Hid (sx.cells = #[.int .i64 6, .int .u8 255, .int .u8 0, .int .u8 0, .int .u8 0, .int .u8 0, .int .u8 0, .int .u8 0, .int .u8 0, .int .u8 0, .int .u8 0, .int .u8 0, .int .u8 0, .int .u8 0, .int .u8 0, .int .u8 0, .int .u8 0])) (HON : Hid (on.cells = #[.int .i64 6, .int .u8 0, .int .u8 0, .int .u8 0, .int .u8 0, .int .u8 0, .int .u8 0, .int .u8 0, .int .u8 0, .int .u8 0, .int .u8 0, .int .u8 0, .int .u8 0, .int .u8 0, .int .u8 0, .int .u8 0, .int .u8 1])) (HK : Hid (∀ w, Calls Tryd.prog 14 #[.agg a.cells] w fun e w' => e = .returned (.int .i64 2) ∧ Below w.heap.size w w')) (HV : Hid (∀ w, Calls Tryd.prog 12 #[.agg a.cells] w fun e w' => e = .returned (.bool true) ∧ Below w.heap.size w w')) (HF1 : Hid (∀ w, Calls Tryd.prog 25 #[.int .u8 127, .int .u8 0, .int .u8 0, .int .u8 0] w fun e w' => e = .returned (.agg c1.cells) ∧ Below w.heap.size w w')) (HF2 : Hid (∀ w, Calls Tryd.prog 25 #[.int .u8 224, .int .u8 0, .int .u8 0, .int .u8 0] w fun e w' => e = .returned (.agg c2.cells) ∧ Below w.heap.size w w')) (HF3 : Hid (∀ w, Calls Tryd.prog 25 #[.int .u8 0, .int .u8 0, .int .u8 0, .int .u8 0] w fun e w' => e = .returned (.agg c3.cells) ∧ Below w.heap.size w w')) (HF4 : Hid (∀ w, Calls Tryd.prog 25 #[.int .u8 255, .int .u8 255, .int .u8 255, .int .u8 255] w fun e w' => e = .returned (.agg c4.cells) ∧ Below w.heap.size w w')) (HL1 : Hid (∀ w, Calls Tryd.prog 20 #[.agg a.cells, .agg c1.cells, .int .i64 8] w fun e w' => e = .returned (.bool false) ∧ Below w.heap.size w w')) (HL2 : Hid (∀ w, Calls Tryd.prog 20 #[.agg a.cells, .agg on.cells, .int .i64 128] w fun e w' => e = .returned (.bool true) ∧ Below w.heap.size w w')) (HM1 : Hid (∀ w, Calls Tryd.prog 20 #[.agg a.cells, .agg c2.cells, .int .i64 4] w fun e w' => e = .returned (.bool false) ∧ Below w.heap.size w w')) (HM2 : Hid (∀ w, Calls Tryd.prog 20 #[.agg a.cells, .agg sx.cells, .int .i64 8] w fun e w' => e = .returned (.bool false) ∧ Below w.heap.size w w')) (HZ1 : Hid (∀ w, Calls Tryd.prog 20 #[.agg a.cells, .agg c3.cells, .int .i64 32] w fun e w' => e = .returned (.bool false) ∧ Below w.heap.size w w')) (HZ2 : Hid (∀ w, Calls Tryd.prog 20 #[.agg a.cells, .agg #[.int .i64 6, .int .u8 0, .int .u8 0, .int .u8 0, .int .u8 0, .int .u8 0, .int .u8 0, .int .u8 0, .int .u8 0, .int .u8 0, .int .u8 0, .int .u8 0, .int .u8 0, .int .u8 0, .int .u8 0, .int .u8 0, .int .u8 0], .int .i64 128] w fun e w' => e = .returned (.bool false) ∧ Below w.heap.size w w')) (HAL : Hid (∀ w, Calls Tryd.prog 20 #[.agg a.cells, .agg c4.cells, .int .i64 32] w fun e w' => e = .returned (.bool false) ∧ Below w.heap.size w w')) (w : World) (hg : Gl w) : Calls Tryd.prog 8 #[.agg a.cells] w fun e w' => e = .returned (.bool true) ∧ Below w.heap.size w w' := by
  have HG := Lib.hid hg
  clear hg
  go_enter Tryd.func8, Tryd.ntmps8
  go_upto_region 1 with fail
  refine wp_named fun W hW => ?_
  obtain ⟨bk, BW, sW⟩ := box1 hW
  have GLW := Lib.hid (HG.out.later BW.out)
  clear hW
  have HE : Hid (En w.heap.size w a W) := Lib.hid ⟨BW.out, bk.out, GLW.out⟩
  go_upto_region 8 with (first | (refine wpList_load_blk rfl 24 _ rfl w.heap.size 24 _ _ rfl HE.out.b1 Tryd.underlying24 rfl (by as_aux_lemma => exact szc ha) ?_) | (go_at_call 9; (first | (with_reducible refine (alive_calls _ HE.out.gl).mono ?_)); rintro e W9 ⟨rfl, hB9⟩; have HE := Lib.hid (HE.out.later hB9); clear hB9) | (go_at_call 14; (first | (with_reducible refine (HK.out _).mono ?_)); rintro e W9 ⟨rfl, hB9⟩; have HE := Lib.hid (HE.out.later hB9); clear hB9) | (go_at_call 12; (first | (with_reducible refine (HV.out _).mono ?_)); rintro e W9 ⟨rfl, hB9⟩; have HE := Lib.hid (HE.out.later hB9); clear hB9))
  refine wp_named fun W2 hW2 => ?_
  have HE : Hid (En w.heap.size w a W2) := Lib.hid (by rw [hW2]; exact HE.out)
  clear hW2
  go_upto_region 9 with (refine wpList_store_blk rfl 24 _ _ rfl W2.heap.size 24 zeroAd.cells #[.int .i64 6, .int .u8 255, .int .u8 0, .int .u8 0, .int .u8 0, .int .u8 0, .int .u8 0, .int .u8 0, .int .u8 0, .int .u8 0, .int .u8 0, .int .u8 0, .int .u8 0, .int .u8 0, .int .u8 0, .int .u8 0, .int .u8 0] rfl rfl (Blk.new _ _ _) rfl sz24 (by rw [← HSX.out]; exact one_cells _) ?_; intro W3 P3)
  have b5 : Hid (Blk W3 W2.heap.size 24 sx.cells) := Lib.hid (by rw [HSX.out]; exact P3.blk)
  have HE3 : Hid (En w.heap.size w a W3) := Lib.hid (HE.out.later (P3.below ((Below.refl _ _).alloc (Nat.le_refl _) _) (Nat.le_refl _) (by simp)))
  clear P3
  go_upto_region 10 with (refine wpList_store_blk rfl 24 _ _ rfl W3.heap.size 24 zeroAd.cells #[.int .i64 6, .int .u8 0, .int .u8 0, .int .u8 0, .int .u8 0, .int .u8 0, .int .u8 0, .int .u8 0, .int .u8 0, .int .u8 0, .int .u8 0, .int .u8 0, .int .u8 0, .int .u8 0, .int .u8 0, .int .u8 0, .int .u8 1] rfl rfl (Blk.new _ _ _) rfl sz24 (by rw [← HON.out]; exact one_cells _) ?_; intro W4 P4)
  have b6 : Hid (Blk W4 W3.heap.size 24 on.cells) := Lib.hid (by rw [HON.out]; exact P4.blk)
  have h34 : Hid (Below W3.heap.size W3 W4) := Lib.hid (P4.below ((Below.refl _ _).alloc (Nat.le_refl _) _) (Nat.le_refl _) (by simp))
  have HE4 : Hid (En w.heap.size w a W4) := Lib.hid (HE3.out.later h34.out)
  have b5' := Lib.hid (b5.out.later h34.out b5.out.lt)
  clear P4
  obtain ⟨G5, hG5⟩ : ∃ g, W2.heap.size = g := ⟨_, rfl⟩
  obtain ⟨G6, hG6⟩ : ∃ g, W3.heap.size = g := ⟨_, rfl⟩
  rw [hG5] at b5' ⊢
  rw [hG6] at b6 ⊢
  have HA : Hid (Ali w w.heap.size G5 G6 a sx on W4) := Lib.hid ⟨HE4.out.below, HE4.out.b1, b5'.out, b6.out, HE4.out.gl⟩
  simp only [Act.put]
  clear hG5 hG6 b5 b5' b6 h34 HE3 HE4 HE bk BW sW GLW
  refine region_later (by kernel_rfl) (by kernel_rfl) ?_
  repeat (first | go_big_quiet_skip | (go_big_quiet_want; first | (refine quiet_load 24 _ rfl w.heap.size 24 _ _ rfl HA.out.b1 Tryd.underlying24 rfl (szc ha) ?_; simp only [Act.put, List.setIfInBounds_toArray, List.set_cons_zero, List.set_cons_succ]; go_big_quiet_on) | (refine quiet_load 24 _ rfl G5 24 _ _ rfl HA.out.b3 Tryd.underlying24 rfl (szc hsx) ?_; simp only [Act.put, List.setIfInBounds_toArray, List.set_cons_zero, List.set_cons_succ]; go_big_quiet_on) | (refine quiet_load 24 _ rfl G6 24 _ _ rfl HA.out.b7 Tryd.underlying24 rfl (szc hon) ?_; simp only [Act.put, List.setIfInBounds_toArray, List.set_cons_zero, List.set_cons_succ]; go_big_quiet_on) | (go_big_quiet_op; first | go_big_quiet_on | go_big_quiet_call (first | (go_at_call 25; exact calls_later (HF1.out _)) | (go_at_call 20; first | (with_reducible exact calls_later (HL1.out _)) | (with_reducible exact calls_later (HL2.out _)))))))
  refine wpQuiet_nil ?_
  intro z hz
  have HA := Lib.hid (HA.out.later hz)
  clear hz
  go_wp2
  refine region_later (by kernel_rfl) (by kernel_rfl) ?_
  repeat (first | go_big_quiet_skip | (go_big_quiet_want; first | (refine quiet_load 24 _ rfl w.heap.size 24 _ _ rfl HA.out.b1 Tryd.underlying24 rfl (szc ha) ?_; simp only [Act.put, List.setIfInBounds_toArray, List.set_cons_zero, List.set_cons_succ]; go_big_quiet_on) | (refine quiet_load 24 _ rfl G5 24 _ _ rfl HA.out.b3 Tryd.underlying24 rfl (szc hsx) ?_; simp only [Act.put, List.setIfInBounds_toArray, List.set_cons_zero, List.set_cons_succ]; go_big_quiet_on) | (refine quiet_load 24 _ rfl G6 24 _ _ rfl HA.out.b7 Tryd.underlying24 rfl (szc hon) ?_; simp only [Act.put, List.setIfInBounds_toArray, List.set_cons_zero, List.set_cons_succ]; go_big_quiet_on) | (go_big_quiet_op; first | go_big_quiet_on | go_big_quiet_call (first | (go_at_call 25; exact calls_later (HF2.out _)) | (go_at_call 20; first | (with_reducible exact calls_later (HM1.out _)) | (with_reducible exact calls_later (HM2.out _)))))))
  refine wpQuiet_nil ?_
  intro z hz
  have HA := Lib.hid (HA.out.later hz)
  clear hz
  go_wp2
  refine region_later (by kernel_rfl) (by kernel_rfl) ?_
  repeat (first | go_big_quiet_skip | (go_big_quiet_want; first | (refine quiet_load 24 _ rfl w.heap.size 24 _ _ rfl HA.out.b1 Tryd.underlying24 rfl (szc ha) ?_; simp only [Act.put, List.setIfInBounds_toArray, List.set_cons_zero, List.set_cons_succ]; go_big_quiet_on) | (refine quiet_load 24 _ rfl G5 24 _ _ rfl HA.out.b3 Tryd.underlying24 rfl (szc hsx) ?_; simp only [Act.put, List.setIfInBounds_toArray, List.set_cons_zero, List.set_cons_succ]; go_big_quiet_on) | (refine quiet_load 24 _ rfl G6 24 _ _ rfl HA.out.b7 Tryd.underlying24 rfl (szc hon) ?_; simp only [Act.put, List.setIfInBounds_toArray, List.set_cons_zero, List.set_cons_succ]; go_big_quiet_on) | (go_big_quiet_op; first | go_big_quiet_on | go_big_quiet_call (first | (go_at_call 25; exact calls_later (HF3.out _)) | (go_at_call 20; first | (with_reducible exact calls_later (HZ1.out _)) | (with_reducible exact calls_later (HZ2.out _)))))))
  refine wpQuiet_nil ?_
  intro z hz
  have HA := Lib.hid (HA.out.later hz)
  clear hz
  go_wp2
  refine region_later (by kernel_rfl) (by kernel_rfl) ?_
  repeat (first | go_big_quiet_skip | (go_big_quiet_want; first | (refine quiet_load 24 _ rfl w.heap.size 24 _ _ rfl HA.out.b1 Tryd.underlying24 rfl (szc ha) ?_; simp only [Act.put, List.setIfInBounds_toArray, List.set_cons_zero, List.set_cons_succ]; go_big_quiet_on) | (refine quiet_load 24 _ rfl G5 24 _ _ rfl HA.out.b3 Tryd.underlying24 rfl (szc hsx) ?_; simp only [Act.put, List.setIfInBounds_toArray, List.set_cons_zero, List.set_cons_succ]; go_big_quiet_on) | (refine quiet_load 24 _ rfl G6 24 _ _ rfl HA.out.b7 Tryd.underlying24 rfl (szc hon) ?_; simp only [Act.put, List.setIfInBounds_toArray, List.set_cons_zero, List.set_cons_succ]; go_big_quiet_on) | (go_big_quiet_op; first | go_big_quiet_on | go_big_quiet_call (first | (go_at_call 25; exact calls_later (HF4.out _)) | (go_at_call 20; exact calls_later (HAL.out _))))))
  refine wpQuiet_nil ?_
  intro z hz
  have HA := Lib.hid (HA.out.later hz)
  clear hz
  go_wp2
  go_ret
  exact ⟨rfl, HA.out.below⟩
set_option maxRecDepth 100000 in
set_option maxHeartbeats 4000000 in
theorem kinds6 (a c1 c2 c3 c4 sx on : Addr) (ha : a.ok) (hsx : sx.ok) (hon : on.ok) (HSX : Hid (sx.cells = #[.int .i64 6, .int .u8 255, .int .u8 0, .int .u8 0, .int .u8 0, .int .u8 0, .int .u8 0, .int .u8 0, .int .u8 0, .int .u8 0, .int .u8 0, .int .u8 0, .int .u8 0, .int .u8 0, .int .u8 0, .int .u8 0, .int .u8 0])) (HON : Hid (on.cells = #[.int .i64 6, .int .u8 0, .int .u8 0, .int .u8 0, .int .u8 0, .int .u8 0, .int .u8 0, .int .u8 0, .int .u8 0, .int .u8 0, .int .u8 0, .int .u8 0, .int .u8 0, .int .u8 0, .int .u8 0, .int .u8 0, .int .u8 1])) (HK : Hid (∀ w, Calls Tryd.prog 14 #[.agg a.cells] w fun e w' => e = .returned (.int .i64 3) ∧ Below w.heap.size w w')) (HV : Hid (∀ w, Calls Tryd.prog 12 #[.agg a.cells] w fun e w' => e = .returned (.bool true) ∧ Below w.heap.size w w')) (HF1 : Hid (∀ w, Calls Tryd.prog 25 #[.int .u8 127, .int .u8 0, .int .u8 0, .int .u8 0] w fun e w' => e = .returned (.agg c1.cells) ∧ Below w.heap.size w w')) (HF2 : Hid (∀ w, Calls Tryd.prog 25 #[.int .u8 224, .int .u8 0, .int .u8 0, .int .u8 0] w fun e w' => e = .returned (.agg c2.cells) ∧ Below w.heap.size w w')) (HF3 : Hid (∀ w, Calls Tryd.prog 25 #[.int .u8 0, .int .u8 0, .int .u8 0, .int .u8 0] w fun e w' => e = .returned (.agg c3.cells) ∧ Below w.heap.size w w')) (HF4 : Hid (∀ w, Calls Tryd.prog 25 #[.int .u8 255, .int .u8 255, .int .u8 255, .int .u8 255] w fun e w' => e = .returned (.agg c4.cells) ∧ Below w.heap.size w w')) (HL1 : Hid (∀ w, Calls Tryd.prog 20 #[.agg a.cells, .agg c1.cells, .int .i64 8] w fun e w' => e = .returned (.bool false) ∧ Below w.heap.size w w')) (HL2 : Hid (∀ w, Calls Tryd.prog 20 #[.agg a.cells, .agg on.cells, .int .i64 128] w fun e w' => e = .returned (.bool false) ∧ Below w.heap.size w w')) (HM1 : Hid (∀ w, Calls Tryd.prog 20 #[.agg a.cells, .agg c2.cells, .int .i64 4] w fun e w' => e = .returned (.bool false) ∧ Below w.heap.size w w')) (HM2 : Hid (∀ w, Calls Tryd.prog 20 #[.agg a.cells, .agg sx.cells, .int .i64 8] w fun e w' => e = .returned (.bool true) ∧ Below w.heap.size w w')) (HZ1 : Hid (∀ w, Calls Tryd.prog 20 #[.agg a.cells, .agg c3.cells, .int .i64 32] w fun e w' => e = .returned (.bool false) ∧ Below w.heap.size w w')) (HZ2 : Hid (∀ w, Calls Tryd.prog 20 #[.agg a.cells, .agg #[.int .i64 6, .int .u8 0, .int .u8 0, .int .u8 0, .int .u8 0, .int .u8 0, .int .u8 0, .int .u8 0, .int .u8 0, .int .u8 0, .int .u8 0, .int .u8 0, .int .u8 0, .int .u8 0, .int .u8 0, .int .u8 0, .int .u8 0], .int .i64 128] w fun e w' => e = .returned (.bool false) ∧ Below w.heap.size w w')) (HAL : Hid (∀ w, Calls Tryd.prog 20 #[.agg a.cells, .agg c4.cells, .int .i64 32] w fun e w' => e = .returned (.bool false) ∧ Below w.heap.size w w')) (w : World) (hg : Gl w) : Calls Tryd.prog 8 #[.agg a.cells] w fun e w' => e = .returned (.bool true) ∧ Below w.heap.size w w' := by
  have HG := Lib.hid hg
  clear hg
  go_enter Tryd.func8, Tryd.ntmps8
  go_upto_region 1 with fail
  refine wp_named fun W hW => ?_
  obtain ⟨bk, BW, sW⟩ := box1 hW
  have GLW := Lib.hid (HG.out.later BW.out)
  clear hW
  have HE : Hid (En w.heap.size w a W) := Lib.hid ⟨BW.out, bk.out, GLW.out⟩
  go_upto_region 8 with (first | (refine wpList_load_blk rfl 24 _ rfl w.heap.size 24 _ _ rfl HE.out.b1 Tryd.underlying24 rfl (by as_aux_lemma => exact szc ha) ?_) | (go_at_call 9; (first | (with_reducible refine (alive_calls _ HE.out.gl).mono ?_)); rintro e W9 ⟨rfl, hB9⟩; have HE := Lib.hid (HE.out.later hB9); clear hB9) | (go_at_call 14; (first | (with_reducible refine (HK.out _).mono ?_)); rintro e W9 ⟨rfl, hB9⟩; have HE := Lib.hid (HE.out.later hB9); clear hB9) | (go_at_call 12; (first | (with_reducible refine (HV.out _).mono ?_)); rintro e W9 ⟨rfl, hB9⟩; have HE := Lib.hid (HE.out.later hB9); clear hB9))
  refine wp_named fun W2 hW2 => ?_
  have HE : Hid (En w.heap.size w a W2) := Lib.hid (by rw [hW2]; exact HE.out)
  clear hW2
  go_upto_region 9 with (refine wpList_store_blk rfl 24 _ _ rfl W2.heap.size 24 zeroAd.cells #[.int .i64 6, .int .u8 255, .int .u8 0, .int .u8 0, .int .u8 0, .int .u8 0, .int .u8 0, .int .u8 0, .int .u8 0, .int .u8 0, .int .u8 0, .int .u8 0, .int .u8 0, .int .u8 0, .int .u8 0, .int .u8 0, .int .u8 0] rfl rfl (Blk.new _ _ _) rfl sz24 (by rw [← HSX.out]; exact one_cells _) ?_; intro W3 P3)
  have b5 : Hid (Blk W3 W2.heap.size 24 sx.cells) := Lib.hid (by rw [HSX.out]; exact P3.blk)
  have HE3 : Hid (En w.heap.size w a W3) := Lib.hid (HE.out.later (P3.below ((Below.refl _ _).alloc (Nat.le_refl _) _) (Nat.le_refl _) (by simp)))
  clear P3
  go_upto_region 10 with (refine wpList_store_blk rfl 24 _ _ rfl W3.heap.size 24 zeroAd.cells #[.int .i64 6, .int .u8 0, .int .u8 0, .int .u8 0, .int .u8 0, .int .u8 0, .int .u8 0, .int .u8 0, .int .u8 0, .int .u8 0, .int .u8 0, .int .u8 0, .int .u8 0, .int .u8 0, .int .u8 0, .int .u8 0, .int .u8 1] rfl rfl (Blk.new _ _ _) rfl sz24 (by rw [← HON.out]; exact one_cells _) ?_; intro W4 P4)
  have b6 : Hid (Blk W4 W3.heap.size 24 on.cells) := Lib.hid (by rw [HON.out]; exact P4.blk)
  have h34 : Hid (Below W3.heap.size W3 W4) := Lib.hid (P4.below ((Below.refl _ _).alloc (Nat.le_refl _) _) (Nat.le_refl _) (by simp))
  have HE4 : Hid (En w.heap.size w a W4) := Lib.hid (HE3.out.later h34.out)
  have b5' := Lib.hid (b5.out.later h34.out b5.out.lt)
  clear P4
  obtain ⟨G5, hG5⟩ : ∃ g, W2.heap.size = g := ⟨_, rfl⟩
  obtain ⟨G6, hG6⟩ : ∃ g, W3.heap.size = g := ⟨_, rfl⟩
  rw [hG5] at b5' ⊢
  rw [hG6] at b6 ⊢
  have HA : Hid (Ali w w.heap.size G5 G6 a sx on W4) := Lib.hid ⟨HE4.out.below, HE4.out.b1, b5'.out, b6.out, HE4.out.gl⟩
  simp only [Act.put]
  clear hG5 hG6 b5 b5' b6 h34 HE3 HE4 HE bk BW sW GLW
  refine region_later (by kernel_rfl) (by kernel_rfl) ?_
  repeat (first | go_big_quiet_skip | (go_big_quiet_want; first | (refine quiet_load 24 _ rfl w.heap.size 24 _ _ rfl HA.out.b1 Tryd.underlying24 rfl (szc ha) ?_; simp only [Act.put, List.setIfInBounds_toArray, List.set_cons_zero, List.set_cons_succ]; go_big_quiet_on) | (refine quiet_load 24 _ rfl G5 24 _ _ rfl HA.out.b3 Tryd.underlying24 rfl (szc hsx) ?_; simp only [Act.put, List.setIfInBounds_toArray, List.set_cons_zero, List.set_cons_succ]; go_big_quiet_on) | (refine quiet_load 24 _ rfl G6 24 _ _ rfl HA.out.b7 Tryd.underlying24 rfl (szc hon) ?_; simp only [Act.put, List.setIfInBounds_toArray, List.set_cons_zero, List.set_cons_succ]; go_big_quiet_on) | (go_big_quiet_op; first | go_big_quiet_on | go_big_quiet_call (first | (go_at_call 25; exact calls_later (HF1.out _)) | (go_at_call 20; first | (with_reducible exact calls_later (HL1.out _)) | (with_reducible exact calls_later (HL2.out _)))))))
  refine wpQuiet_nil ?_
  intro z hz
  have HA := Lib.hid (HA.out.later hz)
  clear hz
  go_wp2
  refine region_later (by kernel_rfl) (by kernel_rfl) ?_
  repeat (first | go_big_quiet_skip | (go_big_quiet_want; first | (refine quiet_load 24 _ rfl w.heap.size 24 _ _ rfl HA.out.b1 Tryd.underlying24 rfl (szc ha) ?_; simp only [Act.put, List.setIfInBounds_toArray, List.set_cons_zero, List.set_cons_succ]; go_big_quiet_on) | (refine quiet_load 24 _ rfl G5 24 _ _ rfl HA.out.b3 Tryd.underlying24 rfl (szc hsx) ?_; simp only [Act.put, List.setIfInBounds_toArray, List.set_cons_zero, List.set_cons_succ]; go_big_quiet_on) | (refine quiet_load 24 _ rfl G6 24 _ _ rfl HA.out.b7 Tryd.underlying24 rfl (szc hon) ?_; simp only [Act.put, List.setIfInBounds_toArray, List.set_cons_zero, List.set_cons_succ]; go_big_quiet_on) | (go_big_quiet_op; first | go_big_quiet_on | go_big_quiet_call (first | (go_at_call 25; exact calls_later (HF2.out _)) | (go_at_call 20; first | (with_reducible exact calls_later (HM1.out _)) | (with_reducible exact calls_later (HM2.out _)))))))
  refine wpQuiet_nil ?_
  intro z hz
  have HA := Lib.hid (HA.out.later hz)
  clear hz
  go_wp2
  refine region_later (by kernel_rfl) (by kernel_rfl) ?_
  repeat (first | go_big_quiet_skip | (go_big_quiet_want; first | (refine quiet_load 24 _ rfl w.heap.size 24 _ _ rfl HA.out.b1 Tryd.underlying24 rfl (szc ha) ?_; simp only [Act.put, List.setIfInBounds_toArray, List.set_cons_zero, List.set_cons_succ]; go_big_quiet_on) | (refine quiet_load 24 _ rfl G5 24 _ _ rfl HA.out.b3 Tryd.underlying24 rfl (szc hsx) ?_; simp only [Act.put, List.setIfInBounds_toArray, List.set_cons_zero, List.set_cons_succ]; go_big_quiet_on) | (refine quiet_load 24 _ rfl G6 24 _ _ rfl HA.out.b7 Tryd.underlying24 rfl (szc hon) ?_; simp only [Act.put, List.setIfInBounds_toArray, List.set_cons_zero, List.set_cons_succ]; go_big_quiet_on) | (go_big_quiet_op; first | go_big_quiet_on | go_big_quiet_call (first | (go_at_call 25; exact calls_later (HF3.out _)) | (go_at_call 20; first | (with_reducible exact calls_later (HZ1.out _)) | (with_reducible exact calls_later (HZ2.out _)))))))
  refine wpQuiet_nil ?_
  intro z hz
  have HA := Lib.hid (HA.out.later hz)
  clear hz
  go_wp2
  refine region_later (by kernel_rfl) (by kernel_rfl) ?_
  repeat (first | go_big_quiet_skip | (go_big_quiet_want; first | (refine quiet_load 24 _ rfl w.heap.size 24 _ _ rfl HA.out.b1 Tryd.underlying24 rfl (szc ha) ?_; simp only [Act.put, List.setIfInBounds_toArray, List.set_cons_zero, List.set_cons_succ]; go_big_quiet_on) | (refine quiet_load 24 _ rfl G5 24 _ _ rfl HA.out.b3 Tryd.underlying24 rfl (szc hsx) ?_; simp only [Act.put, List.setIfInBounds_toArray, List.set_cons_zero, List.set_cons_succ]; go_big_quiet_on) | (refine quiet_load 24 _ rfl G6 24 _ _ rfl HA.out.b7 Tryd.underlying24 rfl (szc hon) ?_; simp only [Act.put, List.setIfInBounds_toArray, List.set_cons_zero, List.set_cons_succ]; go_big_quiet_on) | (go_big_quiet_op; first | go_big_quiet_on | go_big_quiet_call (first | (go_at_call 25; exact calls_later (HF4.out _)) | (go_at_call 20; exact calls_later (HAL.out _))))))
  refine wpQuiet_nil ?_
  intro z hz
  have HA := Lib.hid (HA.out.later hz)
  clear hz
  go_wp2
  go_ret
  exact ⟨rfl, HA.out.below⟩
set_option maxRecDepth 100000 in
set_option maxHeartbeats 4000000 in
theorem kinds7 (a c1 c2 c3 c4 sx on : Addr) (ha : a.ok) (hsx : sx.ok) (hon : on.ok) (HSX : Hid (sx.cells = #[.int .i64 6, .int .u8 255, .int .u8 0, .int .u8 0, .int .u8 0, .int .u8 0, .int .u8 0, .int .u8 0, .int .u8 0, .int .u8 0, .int .u8 0, .int .u8 0, .int .u8 0, .int .u8 0, .int .u8 0, .int .u8 0, .int .u8 0])) (HON : Hid (on.cells = #[.int .i64 6, .int .u8 0, .int .u8 0, .int .u8 0, .int .u8 0, .int .u8 0, .int .u8 0, .int .u8 0, .int .u8 0, .int .u8 0, .int .u8 0, .int .u8 0, .int .u8 0, .int .u8 0, .int .u8 0, .int .u8 0, .int .u8 1])) (HK : Hid (∀ w, Calls Tryd.prog 14 #[.agg a.cells] w fun e w' => e = .returned (.int .i64 1) ∧ Below w.heap.size w w')) (HV : Hid (∀ w, Calls Tryd.prog 12 #[.agg a.cells] w fun e w' => e = .returned (.bool true) ∧ Below w.heap.size w w')) (HF1 : Hid (∀ w, Calls Tryd.prog 25 #[.int .u8 127, .int .u8 0, .int .u8 0, .int .u8 0] w fun e w' => e = .returned (.agg c1.cells) ∧ Below w.heap.size w w')) (HF2 : Hid (∀ w, Calls Tryd.prog 25 #[.int .u8 224, .int .u8 0, .int .u8 0, .int .u8 0] w fun e w' => e = .returned (.agg c2.cells) ∧ Below w.heap.size w w')) (HF3 : Hid (∀ w, Calls Tryd.prog 25 #[.int .u8 0, .int .u8 0, .int .u8 0, .int .u8 0] w fun e w' => e = .returned (.agg c3.cells) ∧ Below w.heap.size w w')) (HF4 : Hid (∀ w, Calls Tryd.prog 25 #[.int .u8 255, .int .u8 255, .int .u8 255, .int .u8 255] w fun e w' => e = .returned (.agg c4.cells) ∧ Below w.heap.size w w')) (HL1 : Hid (∀ w, Calls Tryd.prog 20 #[.agg a.cells, .agg c1.cells, .int .i64 8] w fun e w' => e = .returned (.bool false) ∧ Below w.heap.size w w')) (HL2 : Hid (∀ w, Calls Tryd.prog 20 #[.agg a.cells, .agg on.cells, .int .i64 128] w fun e w' => e = .returned (.bool false) ∧ Below w.heap.size w w')) (HM1 : Hid (∀ w, Calls Tryd.prog 20 #[.agg a.cells, .agg c2.cells, .int .i64 4] w fun e w' => e = .returned (.bool false) ∧ Below w.heap.size w w')) (HM2 : Hid (∀ w, Calls Tryd.prog 20 #[.agg a.cells, .agg sx.cells, .int .i64 8] w fun e w' => e = .returned (.bool false) ∧ Below w.heap.size w w')) (HZ1 : Hid (∀ w, Calls Tryd.prog 20 #[.agg a.cells, .agg c3.cells, .int .i64 32] w fun e w' => e = .returned (.bool false) ∧ Below w.heap.size w w')) (HZ2 : Hid (∀ w, Calls Tryd.prog 20 #[.agg a.cells, .agg #[.int .i64 6, .int .u8 0, .int .u8 0, .int .u8 0, .int .u8 0, .int .u8 0, .int .u8 0, .int .u8 0, .int .u8 0, .int .u8 0, .int .u8 0, .int .u8 0, .int .u8 0, .int .u8 0, .int .u8 0, .int .u8 0, .int .u8 0], .int .i64 128] w fun e w' => e = .returned (.bool true) ∧ Below w.heap.size w w')) (HAL : Hid (∀ w, Calls Tryd.prog 20 #[.agg a.cells, .agg c4.cells, .int .i64 32] w fun e w' => e = .returned (.bool false) ∧ Below w.heap.size w w')) (w : World) (hg : Gl w) : Calls Tryd.prog 8 #[.agg a.cells] w fun e w' => e = .returned (.bool true) ∧ Below w.heap.size w w' := by
  have HG := Lib.hid hg
  clear hg
  go_enter Tryd.func8, Tryd.ntmps8
  go_upto_region 1 with fail
  refine wp_named fun W hW => ?_
  obtain ⟨bk, BW, sW⟩ := box1 hW
  have GLW := Lib.hid (HG.out.later BW.out)
  clear hW
  have HE : Hid (En w.heap.size w a W) := Lib.hid ⟨BW.out, bk.out, GLW.out⟩
  go_upto_region 8 with (first | (refine wpList_load_blk rfl 24 _ rfl w.heap.size 24 _ _ rfl HE.out.b1 Tryd.underlying24 rfl (by as_aux_lemma => exact szc ha) ?_) | (go_at_call 9; (first | (with_reducible refine (alive_calls _ HE.out.gl).mono ?_)); rintro e W9 ⟨rfl, hB9⟩; have HE := Lib.hid (HE.out.later hB9); clear hB9) | (go_at_call 14; (first | (with_reducible refine (HK.out _).mono ?_)); rintro e W9 ⟨rfl, hB9⟩; have HE := Lib.hid (HE.out.later hB9); clear hB9) | (go_at_call 12; (first | (with_reducible refine (HV.out _).mono ?_)); rintro e W9 ⟨rfl, hB9⟩; have HE := Lib.hid (HE.out.later hB9); clear hB9))
  refine wp_named fun W2 hW2 => ?_
  have HE : Hid (En w.heap.size w a W2) := Lib.hid (by rw [hW2]; exact HE.out)
  clear hW2
  go_upto_region 9 with (refine wpList_store_blk rfl 24 _ _ rfl W2.heap.size 24 zeroAd.cells #[.int .i64 6, .int .u8 255, .int .u8 0, .int .u8 0, .int .u8 0, .int .u8 0, .int .u8 0, .int .u8 0, .int .u8 0, .int .u8 0, .int .u8 0, .int .u8 0, .int .u8 0, .int .u8 0, .int .u8 0, .int .u8 0, .int .u8 0] rfl rfl (Blk.new _ _ _) rfl sz24 (by rw [← HSX.out]; exact one_cells _) ?_; intro W3 P3)
  have b5 : Hid (Blk W3 W2.heap.size 24 sx.cells) := Lib.hid (by rw [HSX.out]; exact P3.blk)
  have HE3 : Hid (En w.heap.size w a W3) := Lib.hid (HE.out.later (P3.below ((Below.refl _ _).alloc (Nat.le_refl _) _) (Nat.le_refl _) (by simp)))
  clear P3
  go_upto_region 10 with (refine wpList_store_blk rfl 24 _ _ rfl W3.heap.size 24 zeroAd.cells #[.int .i64 6, .int .u8 0, .int .u8 0, .int .u8 0, .int .u8 0, .int .u8 0, .int .u8 0, .int .u8 0, .int .u8 0, .int .u8 0, .int .u8 0, .int .u8 0, .int .u8 0, .int .u8 0, .int .u8 0, .int .u8 0, .int .u8 1] rfl rfl (Blk.new _ _ _) rfl sz24 (by rw [← HON.out]; exact one_cells _) ?_; intro W4 P4)
  have b6 : Hid (Blk W4 W3.heap.size 24 on.cells) := Lib.hid (by rw [HON.out]; exact P4.blk)
  have h34 : Hid (Below W3.heap.size W3 W4) := Lib.hid (P4.below ((Below.refl _ _).alloc (Nat.le_refl _) _) (Nat.le_refl _) (by simp))
  have HE4 : Hid (En w.heap.size w a W4) := Lib.hid (HE3.out.later h34.out)
  have b5' := Lib.hid (b5.out.later h34.out b5.out.lt)
  clear P4
  obtain ⟨G5, hG5⟩ : ∃ g, W2.heap.size = g := ⟨_, rfl⟩
  obtain ⟨G6, hG6⟩ : ∃ g, W3.heap.size = g := ⟨_, rfl⟩
  rw [hG5] at b5' ⊢
  rw [hG6] at b6 ⊢
  have HA : Hid (Ali w w.heap.size G5 G6 a sx on W4) := Lib.hid ⟨HE4.out.below, HE4.out.b1, b5'.out, b6.out, HE4.out.gl⟩
  simp only [Act.put]
  clear hG5 hG6 b5 b5' b6 h34 HE3 HE4 HE bk BW sW GLW
  refine region_later (by kernel_rfl) (by kernel_rfl) ?_
  repeat (first | go_big_quiet_skip | (go_big_quiet_want; first | (refine quiet_load 24 _ rfl w.heap.size 24 _ _ rfl HA.out.b1 Tryd.underlying24 rfl (szc ha) ?_; simp only [Act.put, List.setIfInBounds_toArray, List.set_cons_zero, List.set_cons_succ]; go_big_quiet_on) | (refine quiet_load 24 _ rfl G5 24 _ _ rfl HA.out.b3 Tryd.underlying24 rfl (szc hsx) ?_; simp only [Act.put, List.setIfInBounds_toArray, List.set_cons_zero, List.set_cons_succ]; go_big_quiet_on) | (refine quiet_load 24 _ rfl G6 24 _ _ rfl HA.out.b7 Tryd.underlying24 rfl (szc hon) ?_; simp only [Act.put, List.setIfInBounds_toArray, List.set_cons_zero, List.set_cons_succ]; go_big_quiet_on) | (go_big_quiet_op; first | go_big_quiet_on | go_big_quiet_call (first | (go_at_call 25; exact calls_later (HF1.out _)) | (go_at_call 20; first | (with_reducible exact calls_later (HL1.out _)) | (with_reducible exact calls_later (HL2.out _)))))))
  refine wpQuiet_nil ?_
  intro z hz
  have HA := Lib.hid (HA.out.later hz)
  clear hz
  go_wp2
  refine region_later (by kernel_rfl) (by kernel_rfl) ?_
  repeat (first | go_big_quiet_skip | (go_big_quiet_want; first | (refine quiet_load 24 _ rfl w.heap.size 24 _ _ rfl HA.out.b1 Tryd.underlying24 rfl (szc ha) ?_; simp only [Act.put, List.setIfInBounds_toArray, List.set_cons_zero, List.set_cons_succ]; go_big_quiet_on) | (refine quiet_load 24 _ rfl G5 24 _ _ rfl HA.out.b3 Tryd.underlying24 rfl (szc hsx) ?_; simp only [Act.put, List.setIfInBounds_toArray, List.set_cons_zero, List.set_cons_succ]; go_big_quiet_on) | (refine quiet_load 24 _ rfl G6 24 _ _ rfl HA.out.b7 Tryd.underlying24 rfl (szc hon) ?_; simp only [Act.put, List.setIfInBounds_toArray, List.set_cons_zero, List.set_cons_succ]; go_big_quiet_on) | (go_big_quiet_op; first | go_big_quiet_on | go_big_quiet_call (first | (go_at_call 25; exact calls_later (HF2.out _)) | (go_at_call 20; first | (with_reducible exact calls_later (HM1.out _)) | (with_reducible exact calls_later (HM2.out _)))))))
  refine wpQuiet_nil ?_
  intro z hz
  have HA := Lib.hid (HA.out.later hz)
  clear hz
  go_wp2
  refine region_later (by kernel_rfl) (by kernel_rfl) ?_
  repeat (first | go_big_quiet_skip | (go_big_quiet_want; first | (refine quiet_load 24 _ rfl w.heap.size 24 _ _ rfl HA.out.b1 Tryd.underlying24 rfl (szc ha) ?_; simp only [Act.put, List.setIfInBounds_toArray, List.set_cons_zero, List.set_cons_succ]; go_big_quiet_on) | (refine quiet_load 24 _ rfl G5 24 _ _ rfl HA.out.b3 Tryd.underlying24 rfl (szc hsx) ?_; simp only [Act.put, List.setIfInBounds_toArray, List.set_cons_zero, List.set_cons_succ]; go_big_quiet_on) | (refine quiet_load 24 _ rfl G6 24 _ _ rfl HA.out.b7 Tryd.underlying24 rfl (szc hon) ?_; simp only [Act.put, List.setIfInBounds_toArray, List.set_cons_zero, List.set_cons_succ]; go_big_quiet_on) | (go_big_quiet_op; first | go_big_quiet_on | go_big_quiet_call (first | (go_at_call 25; exact calls_later (HF3.out _)) | (go_at_call 20; first | (with_reducible exact calls_later (HZ1.out _)) | (with_reducible exact calls_later (HZ2.out _)))))))
  refine wpQuiet_nil ?_
  intro z hz
  have HA := Lib.hid (HA.out.later hz)
  clear hz
  go_wp2
  refine region_later (by kernel_rfl) (by kernel_rfl) ?_
  repeat (first | go_big_quiet_skip | (go_big_quiet_want; first | (refine quiet_load 24 _ rfl w.heap.size 24 _ _ rfl HA.out.b1 Tryd.underlying24 rfl (szc ha) ?_; simp only [Act.put, List.setIfInBounds_toArray, List.set_cons_zero, List.set_cons_succ]; go_big_quiet_on) | (refine quiet_load 24 _ rfl G5 24 _ _ rfl HA.out.b3 Tryd.underlying24 rfl (szc hsx) ?_; simp only [Act.put, List.setIfInBounds_toArray, List.set_cons_zero, List.set_cons_succ]; go_big_quiet_on) | (refine quiet_load 24 _ rfl G6 24 _ _ rfl HA.out.b7 Tryd.underlying24 rfl (szc hon) ?_; simp only [Act.put, List.setIfInBounds_toArray, List.set_cons_zero, List.set_cons_succ]; go_big_quiet_on) | (go_big_quiet_op; first | go_big_quiet_on | go_big_quiet_call (first | (go_at_call 25; exact calls_later (HF4.out _)) | (go_at_call 20; exact calls_later (HAL.out _))))))
  refine wpQuiet_nil ?_
  intro z hz
  have HA := Lib.hid (HA.out.later hz)
  clear hz
  go_wp2
  go_ret
  exact ⟨rfl, HA.out.below⟩
set_option maxRecDepth 100000 in
set_option maxHeartbeats 4000000 in
theorem kinds_no (a : Addr) (ha : a.ok) (HK : Hid (∀ w, Calls Tryd.prog 14 #[.agg a.cells] w fun e w' => e = .returned (.int .i64 0) ∧ Below w.heap.size w w')) (HV : Hid (∀ w, Calls Tryd.prog 12 #[.agg a.cells] w fun e w' => e = .returned (.bool false) ∧ Below w.heap.size w w')) (w : World) (hg : Gl w) : Calls Tryd.prog 8 #[.agg a.cells] w fun e w' => e = .returned (.bool true) ∧ Below w.heap.size w w' := by
  have HG := Lib.hid hg
  clear hg
  go_enter Tryd.func8, Tryd.ntmps8
  go_upto_region 1 with fail
  refine wp_named fun W hW => ?_
  obtain ⟨bk, BW, sW⟩ := box1 hW
  have GLW := Lib.hid (HG.out.later BW.out)
  clear hW
  have HE : Hid (En w.heap.size w a W) := Lib.hid ⟨BW.out, bk.out, GLW.out⟩
  go_wp2_with (first | (refine wpList_load_blk rfl 24 _ rfl w.heap.size 24 _ _ rfl HE.out.b1 Tryd.underlying24 rfl (by as_aux_lemma => exact szc ha) ?_) | (go_at_call 9; (first | (with_reducible refine (alive_calls _ HE.out.gl).mono ?_)); rintro e W9 ⟨rfl, hB9⟩; have HE := Lib.hid (HE.out.later hB9); clear hB9) | (go_at_call 14; (first | (with_reducible refine (HK.out _).mono ?_)); rintro e W9 ⟨rfl, hB9⟩; have HE := Lib.hid (HE.out.later hB9); clear hB9) | (go_at_call 12; (first | (with_reducible refine (HV.out _).mono ?_)); rintro e W9 ⟨rfl, hB9⟩; have HE := Lib.hid (HE.out.later hB9); clear hB9))
  go_ret
  exact ⟨rfl, HE.out.below⟩
theorem kinds_calls (a : Addr) (ha : a.ok) (w : World) (hg : Gl w) : Calls Tryd.prog 8 #[.agg a.cells] w fun e w' => e = .returned (.bool true) ∧ Below w.heap.size w w' := by
  by_cases hv : a.valid = true
  · rcases kinds ha hv with h | h | h | h | h | h | h | h
    · exact kinds0 a (ad4 127 0 0 0) (ad4 224 0 0 0) (ad4 0 0 0 0) (ad4 255 255 255 255) adSix adOne ha rfl rfl (Lib.hid rfl) (Lib.hid rfl) (Lib.hid (fun w => by have := kind_calls a ha w; rwa [h.k] at this)) (Lib.hid (fun w => by have := valid_calls a ha w; rwa [hv] at this)) (Lib.hid (fun w => fourL_calls 127 0 0 0 (by decide) (by decide) (by decide) (by decide) w)) (Lib.hid (fun w => fourL_calls 224 0 0 0 (by decide) (by decide) (by decide) (by decide) w)) (Lib.hid (fun w => fourL_calls 0 0 0 0 (by decide) (by decide) (by decide) (by decide) w)) (Lib.hid (fun w => fourL_calls 255 255 255 255 (by decide) (by decide) (by decide) (by decide) w)) (Lib.hid (fun w => by have := within_calls a (ad4 127 0 0 0) ha rfl 8 w; rwa [h.l1] at this)) (Lib.hid (fun w => by have := within_calls a adOne ha rfl 128 w; rwa [h.l2] at this)) (Lib.hid (fun w => by have := within_calls a (ad4 224 0 0 0) ha rfl 4 w; rwa [h.m1] at this)) (Lib.hid (fun w => by have := within_calls a adSix ha rfl 8 w; rwa [h.m2] at this)) (Lib.hid (fun w => by have := within_calls a (ad4 0 0 0 0) ha rfl 32 w; rwa [h.z1] at this)) (Lib.hid (fun w => by have := within_calls a adZero6 ha rfl 128 w; rwa [h.z2] at this)) (Lib.hid (fun w => by have := within_calls a (ad4 255 255 255 255) ha rfl 32 w; rwa [h.al] at this)) w hg
    · exact kinds1 a (ad4 127 0 0 0) (ad4 224 0 0 0) (ad4 0 0 0 0) (ad4 255 255 255 255) adSix adOne ha rfl rfl (Lib.hid rfl) (Lib.hid rfl) (Lib.hid (fun w => by have := kind_calls a ha w; rwa [h.k] at this)) (Lib.hid (fun w => by have := valid_calls a ha w; rwa [hv] at this)) (Lib.hid (fun w => fourL_calls 127 0 0 0 (by decide) (by decide) (by decide) (by decide) w)) (Lib.hid (fun w => fourL_calls 224 0 0 0 (by decide) (by decide) (by decide) (by decide) w)) (Lib.hid (fun w => fourL_calls 0 0 0 0 (by decide) (by decide) (by decide) (by decide) w)) (Lib.hid (fun w => fourL_calls 255 255 255 255 (by decide) (by decide) (by decide) (by decide) w)) (Lib.hid (fun w => by have := within_calls a (ad4 127 0 0 0) ha rfl 8 w; rwa [h.l1] at this)) (Lib.hid (fun w => by have := within_calls a adOne ha rfl 128 w; rwa [h.l2] at this)) (Lib.hid (fun w => by have := within_calls a (ad4 224 0 0 0) ha rfl 4 w; rwa [h.m1] at this)) (Lib.hid (fun w => by have := within_calls a adSix ha rfl 8 w; rwa [h.m2] at this)) (Lib.hid (fun w => by have := within_calls a (ad4 0 0 0 0) ha rfl 32 w; rwa [h.z1] at this)) (Lib.hid (fun w => by have := within_calls a adZero6 ha rfl 128 w; rwa [h.z2] at this)) (Lib.hid (fun w => by have := within_calls a (ad4 255 255 255 255) ha rfl 32 w; rwa [h.al] at this)) w hg
    · exact kinds2 a (ad4 127 0 0 0) (ad4 224 0 0 0) (ad4 0 0 0 0) (ad4 255 255 255 255) adSix adOne ha rfl rfl (Lib.hid rfl) (Lib.hid rfl) (Lib.hid (fun w => by have := kind_calls a ha w; rwa [h.k] at this)) (Lib.hid (fun w => by have := valid_calls a ha w; rwa [hv] at this)) (Lib.hid (fun w => fourL_calls 127 0 0 0 (by decide) (by decide) (by decide) (by decide) w)) (Lib.hid (fun w => fourL_calls 224 0 0 0 (by decide) (by decide) (by decide) (by decide) w)) (Lib.hid (fun w => fourL_calls 0 0 0 0 (by decide) (by decide) (by decide) (by decide) w)) (Lib.hid (fun w => fourL_calls 255 255 255 255 (by decide) (by decide) (by decide) (by decide) w)) (Lib.hid (fun w => by have := within_calls a (ad4 127 0 0 0) ha rfl 8 w; rwa [h.l1] at this)) (Lib.hid (fun w => by have := within_calls a adOne ha rfl 128 w; rwa [h.l2] at this)) (Lib.hid (fun w => by have := within_calls a (ad4 224 0 0 0) ha rfl 4 w; rwa [h.m1] at this)) (Lib.hid (fun w => by have := within_calls a adSix ha rfl 8 w; rwa [h.m2] at this)) (Lib.hid (fun w => by have := within_calls a (ad4 0 0 0 0) ha rfl 32 w; rwa [h.z1] at this)) (Lib.hid (fun w => by have := within_calls a adZero6 ha rfl 128 w; rwa [h.z2] at this)) (Lib.hid (fun w => by have := within_calls a (ad4 255 255 255 255) ha rfl 32 w; rwa [h.al] at this)) w hg
    · exact kinds3 a (ad4 127 0 0 0) (ad4 224 0 0 0) (ad4 0 0 0 0) (ad4 255 255 255 255) adSix adOne ha rfl rfl (Lib.hid rfl) (Lib.hid rfl) (Lib.hid (fun w => by have := kind_calls a ha w; rwa [h.k] at this)) (Lib.hid (fun w => by have := valid_calls a ha w; rwa [hv] at this)) (Lib.hid (fun w => fourL_calls 127 0 0 0 (by decide) (by decide) (by decide) (by decide) w)) (Lib.hid (fun w => fourL_calls 224 0 0 0 (by decide) (by decide) (by decide) (by decide) w)) (Lib.hid (fun w => fourL_calls 0 0 0 0 (by decide) (by decide) (by decide) (by decide) w)) (Lib.hid (fun w => fourL_calls 255 255 255 255 (by decide) (by decide) (by decide) (by decide) w)) (Lib.hid (fun w => by have := within_calls a (ad4 127 0 0 0) ha rfl 8 w; rwa [h.l1] at this)) (Lib.hid (fun w => by have := within_calls a adOne ha rfl 128 w; rwa [h.l2] at this)) (Lib.hid (fun w => by have := within_calls a (ad4 224 0 0 0) ha rfl 4 w; rwa [h.m1] at this)) (Lib.hid (fun w => by have := within_calls a adSix ha rfl 8 w; rwa [h.m2] at this)) (Lib.hid (fun w => by have := within_calls a (ad4 0 0 0 0) ha rfl 32 w; rwa [h.z1] at this)) (Lib.hid (fun w => by have := within_calls a adZero6 ha rfl 128 w; rwa [h.z2] at this)) (Lib.hid (fun w => by have := within_calls a (ad4 255 255 255 255) ha rfl 32 w; rwa [h.al] at this)) w hg
    · exact kinds4 a (ad4 127 0 0 0) (ad4 224 0 0 0) (ad4 0 0 0 0) (ad4 255 255 255 255) adSix adOne ha rfl rfl (Lib.hid rfl) (Lib.hid rfl) (Lib.hid (fun w => by have := kind_calls a ha w; rwa [h.k] at this)) (Lib.hid (fun w => by have := valid_calls a ha w; rwa [hv] at this)) (Lib.hid (fun w => fourL_calls 127 0 0 0 (by decide) (by decide) (by decide) (by decide) w)) (Lib.hid (fun w => fourL_calls 224 0 0 0 (by decide) (by decide) (by decide) (by decide) w)) (Lib.hid (fun w => fourL_calls 0 0 0 0 (by decide) (by decide) (by decide) (by decide) w)) (Lib.hid (fun w => fourL_calls 255 255 255 255 (by decide) (by decide) (by decide) (by decide) w)) (Lib.hid (fun w => by have := within_calls a (ad4 127 0 0 0) ha rfl 8 w; rwa [h.l1] at this)) (Lib.hid (fun w => by have := within_calls a adOne ha rfl 128 w; rwa [h.l2] at this)) (Lib.hid (fun w => by have := within_calls a (ad4 224 0 0 0) ha rfl 4 w; rwa [h.m1] at this)) (Lib.hid (fun w => by have := within_calls a adSix ha rfl 8 w; rwa [h.m2] at this)) (Lib.hid (fun w => by have := within_calls a (ad4 0 0 0 0) ha rfl 32 w; rwa [h.z1] at this)) (Lib.hid (fun w => by have := within_calls a adZero6 ha rfl 128 w; rwa [h.z2] at this)) (Lib.hid (fun w => by have := within_calls a (ad4 255 255 255 255) ha rfl 32 w; rwa [h.al] at this)) w hg
    · exact kinds5 a (ad4 127 0 0 0) (ad4 224 0 0 0) (ad4 0 0 0 0) (ad4 255 255 255 255) adSix adOne ha rfl rfl (Lib.hid rfl) (Lib.hid rfl) (Lib.hid (fun w => by have := kind_calls a ha w; rwa [h.k] at this)) (Lib.hid (fun w => by have := valid_calls a ha w; rwa [hv] at this)) (Lib.hid (fun w => fourL_calls 127 0 0 0 (by decide) (by decide) (by decide) (by decide) w)) (Lib.hid (fun w => fourL_calls 224 0 0 0 (by decide) (by decide) (by decide) (by decide) w)) (Lib.hid (fun w => fourL_calls 0 0 0 0 (by decide) (by decide) (by decide) (by decide) w)) (Lib.hid (fun w => fourL_calls 255 255 255 255 (by decide) (by decide) (by decide) (by decide) w)) (Lib.hid (fun w => by have := within_calls a (ad4 127 0 0 0) ha rfl 8 w; rwa [h.l1] at this)) (Lib.hid (fun w => by have := within_calls a adOne ha rfl 128 w; rwa [h.l2] at this)) (Lib.hid (fun w => by have := within_calls a (ad4 224 0 0 0) ha rfl 4 w; rwa [h.m1] at this)) (Lib.hid (fun w => by have := within_calls a adSix ha rfl 8 w; rwa [h.m2] at this)) (Lib.hid (fun w => by have := within_calls a (ad4 0 0 0 0) ha rfl 32 w; rwa [h.z1] at this)) (Lib.hid (fun w => by have := within_calls a adZero6 ha rfl 128 w; rwa [h.z2] at this)) (Lib.hid (fun w => by have := within_calls a (ad4 255 255 255 255) ha rfl 32 w; rwa [h.al] at this)) w hg
    · exact kinds6 a (ad4 127 0 0 0) (ad4 224 0 0 0) (ad4 0 0 0 0) (ad4 255 255 255 255) adSix adOne ha rfl rfl (Lib.hid rfl) (Lib.hid rfl) (Lib.hid (fun w => by have := kind_calls a ha w; rwa [h.k] at this)) (Lib.hid (fun w => by have := valid_calls a ha w; rwa [hv] at this)) (Lib.hid (fun w => fourL_calls 127 0 0 0 (by decide) (by decide) (by decide) (by decide) w)) (Lib.hid (fun w => fourL_calls 224 0 0 0 (by decide) (by decide) (by decide) (by decide) w)) (Lib.hid (fun w => fourL_calls 0 0 0 0 (by decide) (by decide) (by decide) (by decide) w)) (Lib.hid (fun w => fourL_calls 255 255 255 255 (by decide) (by decide) (by decide) (by decide) w)) (Lib.hid (fun w => by have := within_calls a (ad4 127 0 0 0) ha rfl 8 w; rwa [h.l1] at this)) (Lib.hid (fun w => by have := within_calls a adOne ha rfl 128 w; rwa [h.l2] at this)) (Lib.hid (fun w => by have := within_calls a (ad4 224 0 0 0) ha rfl 4 w; rwa [h.m1] at this)) (Lib.hid (fun w => by have := within_calls a adSix ha rfl 8 w; rwa [h.m2] at this)) (Lib.hid (fun w => by have := within_calls a (ad4 0 0 0 0) ha rfl 32 w; rwa [h.z1] at this)) (Lib.hid (fun w => by have := within_calls a adZero6 ha rfl 128 w; rwa [h.z2] at this)) (Lib.hid (fun w => by have := within_calls a (ad4 255 255 255 255) ha rfl 32 w; rwa [h.al] at this)) w hg
    · exact kinds7 a (ad4 127 0 0 0) (ad4 224 0 0 0) (ad4 0 0 0 0) (ad4 255 255 255 255) adSix adOne ha rfl rfl (Lib.hid rfl) (Lib.hid rfl) (Lib.hid (fun w => by have := kind_calls a ha w; rwa [h.k] at this)) (Lib.hid (fun w => by have := valid_calls a ha w; rwa [hv] at this)) (Lib.hid (fun w => fourL_calls 127 0 0 0 (by decide) (by decide) (by decide) (by decide) w)) (Lib.hid (fun w => fourL_calls 224 0 0 0 (by decide) (by decide) (by decide) (by decide) w)) (Lib.hid (fun w => fourL_calls 0 0 0 0 (by decide) (by decide) (by decide) (by decide) w)) (Lib.hid (fun w => fourL_calls 255 255 255 255 (by decide) (by decide) (by decide) (by decide) w)) (Lib.hid (fun w => by have := within_calls a (ad4 127 0 0 0) ha rfl 8 w; rwa [h.l1] at this)) (Lib.hid (fun w => by have := within_calls a adOne ha rfl 128 w; rwa [h.l2] at this)) (Lib.hid (fun w => by have := within_calls a (ad4 224 0 0 0) ha rfl 4 w; rwa [h.m1] at this)) (Lib.hid (fun w => by have := within_calls a adSix ha rfl 8 w; rwa [h.m2] at this)) (Lib.hid (fun w => by have := within_calls a (ad4 0 0 0 0) ha rfl 32 w; rwa [h.z1] at this)) (Lib.hid (fun w => by have := within_calls a adZero6 ha rfl 128 w; rwa [h.z2] at this)) (Lib.hid (fun w => by have := within_calls a (ad4 255 255 255 255) ha rfl 32 w; rwa [h.al] at this)) w hg
  · have hv' : a.valid = false := by simpa using hv
    have hk : a.kind = 0 := by unfold Addr.kind; rw [if_pos hv']
    exact kinds_no a ha (Lib.hid (fun w => by have := kind_calls a ha w; rwa [hk] at this)) (Lib.hid (fun w => by have := valid_calls a ha w; rwa [hv'] at this)) w hg
end Go.Proofs.YtakdcndkpipfbaaDoor.Ad
