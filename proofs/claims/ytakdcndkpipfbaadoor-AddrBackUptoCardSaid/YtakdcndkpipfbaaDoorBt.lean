/- Contract of alive: it answers true. Conditions: the library's tables hold what its text lays. -/
import Derived.Test.YtakdcndkpipfbaaDoorBs
namespace Go.Proofs.YtakdcndkpipfbaaDoor.Ad
set_option linter.unusedVariables false
set_option linter.unusedSimpArgs false
open Go.RowKit W
/-- What alive's own world holds behind its four readings. -/
structure Ali (w : World) (G1 G3 G7 : Nat) (a b m : Addr) (W : World) : Prop where
  below : Below w.heap.size w W
  b1 : Blk W G1 24 a.cells
  b3 : Blk W G3 24 b.cells
  b7 : Blk W G7 24 m.cells
  gl : Gl W
theorem Ali.later {w W W' : World} {G1 G3 G7 : Nat} {a b m : Addr} (h : Ali w G1 G3 G7 a b m W) (hb : Below W.heap.size W W') : Ali w G1 G3 G7 a b m W' :=
  ⟨h.below.trans (hb.mono h.below.size), h.b1.later hb h.b1.lt, h.b3.later hb h.b3.lt, h.b7.later hb h.b7.lt, h.gl.later hb⟩
set_option maxRecDepth 100000 in
set_option maxHeartbeats 4000000 in
theorem alive_of (a b m c : Addr) (ha : a.ok) (hb : b.ok) (hm : m.ok) (hc : c.ok) (HP1 : Hid (∀ w, Gl w → Calls Tryd.prog 22 #[.string ⟨#[49, 57, 50, 46, 48, 46, 50, 46, 49, 50, 57]⟩] w fun e w' => e = .returned (.tuple #[.agg a.cells, .int .i64 0]) ∧ Below w.heap.size w w')) (HP2 : Hid (∀ w, Gl w → Calls Tryd.prog 22 #[.string ⟨#[50, 48, 48, 49, 58, 100, 98, 56, 58, 48, 58, 48, 58, 49, 58, 48, 58, 48, 58, 49]⟩] w fun e w' => e = .returned (.tuple #[.agg b.cells, .int .i64 0]) ∧ Below w.heap.size w w')) (HP3 : Hid (∀ w, Gl w → Calls Tryd.prog 22 #[.string ⟨#[49, 58, 58, 50, 58, 58, 51]⟩] w fun e w' => e = .returned (.tuple #[.agg zeroAd.cells, .int .i64 30]) ∧ Below w.heap.size w w')) (HM : Hid (∀ w, Calls Tryd.prog 10 #[.agg a.cells, .int .i64 25] w fun e w' => e = .returned (.tuple #[.agg m.cells, .int .i64 0]) ∧ Below w.heap.size w w')) (HF1 : Hid (∀ w, Calls Tryd.prog 25 #[.int .u8 192, .int .u8 0, .int .u8 2, .int .u8 129] w fun e w' => e = .returned (.agg a.cells) ∧ Below w.heap.size w w')) (HF2 : Hid (∀ w, Calls Tryd.prog 25 #[.int .u8 192, .int .u8 0, .int .u8 2, .int .u8 128] w fun e w' => e = .returned (.agg m.cells) ∧ Below w.heap.size w w')) (HF3 : Hid (∀ w, Calls Tryd.prog 25 #[.int .u8 127, .int .u8 1, .int .u8 1, .int .u8 1] w fun e w' => e = .returned (.agg c.cells) ∧ Below w.heap.size w w')) (HV : Hid (∀ w, Calls Tryd.prog 12 #[.agg a.cells] w fun e w' => e = .returned (.bool true) ∧ Below w.heap.size w w')) (HK1 : Hid (∀ w, Calls Tryd.prog 14 #[.agg a.cells] w fun e w' => e = .returned (.int .i64 5) ∧ Below w.heap.size w w')) (HK2 : Hid (∀ w, Calls Tryd.prog 14 #[.agg c.cells] w fun e w' => e = .returned (.int .i64 2) ∧ Below w.heap.size w w')) (HPR : Hid (∀ w, Gl w → Calls Tryd.prog 16 #[.agg b.cells] w fun e w' => e = .returned (.string ⟨#[50, 48, 48, 49, 58, 100, 98, 56, 58, 58, 49, 58, 48, 58, 48, 58, 49]⟩) ∧ Below w.heap.size w w')) (HL : Hid (∀ w, Calls Tryd.prog 18 #[.agg a.cells, .agg b.cells] w fun e w' => e = .returned (.bool true) ∧ Below w.heap.size w w')) (HW1 : Hid (∀ w, Calls Tryd.prog 20 #[.agg a.cells, .agg m.cells, .int .i64 25] w fun e w' => e = .returned (.bool true) ∧ Below w.heap.size w w')) (HW2 : Hid (∀ w, Calls Tryd.prog 20 #[.agg a.cells, .agg m.cells, .int .i64 33] w fun e w' => e = .returned (.bool false) ∧ Below w.heap.size w w')) (w : World) (hg : Gl w) : Calls Tryd.prog 9 #[] w fun e w' => e = .returned (.bool true) ∧ Below w.heap.size w w' := by
  have HG := Lib.hid hg
  have z0 := zero_ok
  have q1 : ∀ w, (binOp .neq 24 (.agg a.cells) (.agg a.cells)).run Tryd.prog w = .ok (.bool false) w := fun w => by have := neq_ad a a ha ha w; simpa using this
  have q2 : ∀ w, (binOp .neq 24 (.agg m.cells) (.agg m.cells)).run Tryd.prog w = .ok (.bool false) w := fun w => by have := neq_ad m m hm hm w; simpa using this
  clear hg
  go_enter Tryd.func9, Tryd.ntmps9
  go_upto_region 2 with (first | (go_at_call 22; refine (HP1.out _ HG.out).mono ?_; rintro e W1 ⟨rfl, hB2⟩) | (refine wpList_store_blk rfl 24 _ _ rfl W1.heap.size 24 zeroAd.cells a.cells rfl rfl (Blk.new _ _ _) (by first | rfl | rw [csize ha, csize zero_ok]) (szc ha) (one_cells _) ?_; intro W2 P2))
  obtain ⟨B2, b2, s2, t2⟩ := call_store hB2 P2
  clear hB2 P2
  have GL2 := Lib.hid (HG.out.later B2.out)
  go_upto_region 3 with (first | (go_at_call 22; refine (HP2.out _ GL2.out).mono ?_; rintro e W3 ⟨rfl, hB3⟩) | (refine wpList_store_blk rfl 24 _ _ rfl W3.heap.size 24 zeroAd.cells b.cells rfl rfl (Blk.new _ _ _) (by first | rfl | rw [csize hb, csize zero_ok]) (szc hb) (one_cells _) ?_; intro W4 P4))
  obtain ⟨B3, b3, s3, t3⟩ := call_store hB3 P4
  clear hB3 P4
  have GL4 := Lib.hid (GL2.out.later B3.out)
  go_upto_region 4 with (first | (go_at_call 22; refine (HP3.out _ GL4.out).mono ?_; rintro e W5 ⟨rfl, hB4⟩) | (refine wpList_store_blk rfl 24 _ _ rfl W5.heap.size 24 zeroAd.cells zeroAd.cells rfl rfl (Blk.new _ _ _) (by first | rfl | rw [csize z0, csize zero_ok]) (szc z0) (one_cells _) ?_; intro W6 P6))
  obtain ⟨B4, b4, s4, t4⟩ := call_store hB4 P6
  clear hB4 P6
  have GL6 := Lib.hid (GL4.out.later B4.out)
  have B24 := Lib.hid (B2.out.trans (B3.out.mono B2.out.size))
  have B26 := Lib.hid (B24.out.trans (B4.out.mono B24.out.size))
  have B46 := Lib.hid (B3.out.trans (B4.out.mono B3.out.size))
  have c1 := Lib.hid (b2.out.later B46.out b2.out.lt)
  have c3 := Lib.hid (b3.out.later B4.out b3.out.lt)
  obtain ⟨G1, hG1⟩ : ∃ g, W1.heap.size = g := ⟨_, rfl⟩
  obtain ⟨G3, hG3⟩ : ∃ g, W3.heap.size = g := ⟨_, rfl⟩
  rw [hG1] at c1 ⊢
  rw [hG3] at c3 ⊢
  clear b2 b3 b4 s2 s3 s4 t2 t3 t4 hG1 hG3
  go_upto_region 5 with (first | (refine wpList_load_blk rfl 24 _ rfl G1 24 _ _ rfl c1.out Tryd.underlying24 rfl (by as_aux_lemma => exact szc ha) ?_) | (go_at_call 10; refine (HM.out _).mono ?_; rintro e W7 ⟨rfl, hB5⟩) | (refine wpList_store_blk rfl 24 _ _ rfl W7.heap.size 24 zeroAd.cells m.cells rfl rfl (Blk.new _ _ _) (by first | rfl | rw [csize hm, csize zero_ok]) (szc hm) (one_cells _) ?_; intro W8 P8))
  obtain ⟨B5, b5, s5, t5⟩ := call_store hB5 P8
  clear hB5 P8
  obtain ⟨G7, hG7⟩ : ∃ g, W7.heap.size = g := ⟨_, rfl⟩
  rw [hG7] at b5 ⊢
  have HA : Hid (Ali w G1 G3 G7 a b m W8) := Lib.hid ⟨B26.out.trans (B5.out.mono B26.out.size), c1.out.later B5.out c1.out.lt, c3.out.later B5.out c3.out.lt, b5.out, GL6.out.later B5.out⟩
  clear hG7 b5 s5 t5 c1 c3 B2 B3 B4 B5 B24 B26 B46 GL2 GL4 GL6
  go_wp2
  refine region_later (by kernel_rfl) (by kernel_rfl) ?_
  repeat (first | go_big_quiet_skip | (go_big_quiet_want; first | (refine quiet_load 24 _ rfl G1 24 _ _ rfl HA.out.b1 Tryd.underlying24 rfl (szc ha) ?_; simp only [Act.put, List.setIfInBounds_toArray, List.set_cons_zero, List.set_cons_succ]; go_big_quiet_on) | (refine quiet_load 24 _ rfl G7 24 _ _ rfl HA.out.b7 Tryd.underlying24 rfl (szc hm) ?_; simp only [Act.put, List.setIfInBounds_toArray, List.set_cons_zero, List.set_cons_succ]; go_big_quiet_on) | (go_big_quiet_op; first | go_big_quiet_on | go_big_quiet_call ((go_at_call 25; first | (with_reducible exact calls_later (HF1.out _)) | (with_reducible exact calls_later (HF2.out _)))))))
  refine wpQuiet_nil ?_
  intro z hz
  have HA := Lib.hid (HA.out.later hz)
  clear hz
  go_wp2_with (first | (refine wpList_load_blk rfl 24 _ rfl G1 24 _ _ rfl HA.out.b1 Tryd.underlying24 rfl (by as_aux_lemma => exact szc ha) ?_) | (refine wpList_load_blk rfl 24 _ rfl G3 24 _ _ rfl HA.out.b3 Tryd.underlying24 rfl (by as_aux_lemma => exact szc hb) ?_) | (refine wpList_load_blk rfl 24 _ rfl G7 24 _ _ rfl HA.out.b7 Tryd.underlying24 rfl (by as_aux_lemma => exact szc hm) ?_) | (go_at_call 12; (first | (with_reducible refine (HV.out _).mono ?_)); rintro e W9 ⟨rfl, hB9⟩; have HA := Lib.hid (HA.out.later hB9); clear hB9) | (go_at_call 14; (first | (with_reducible refine (HK1.out _).mono ?_) | (with_reducible refine (HK2.out _).mono ?_)); rintro e W9 ⟨rfl, hB9⟩; have HA := Lib.hid (HA.out.later hB9); clear hB9) | (go_at_call 25; (first | (with_reducible refine (HF3.out _).mono ?_)); rintro e W9 ⟨rfl, hB9⟩; have HA := Lib.hid (HA.out.later hB9); clear hB9) | (go_at_call 16; (first | (with_reducible refine (HPR.out _ HA.out.gl).mono ?_)); rintro e W9 ⟨rfl, hB9⟩; have HA := Lib.hid (HA.out.later hB9); clear hB9) | (go_at_call 18; (first | (with_reducible refine (HL.out _).mono ?_)); rintro e W9 ⟨rfl, hB9⟩; have HA := Lib.hid (HA.out.later hB9); clear hB9) | (go_at_call 20; (first | (with_reducible refine (HW1.out _).mono ?_) | (with_reducible refine (HW2.out _).mono ?_)); rintro e W9 ⟨rfl, hB9⟩; have HA := Lib.hid (HA.out.later hB9); clear hB9))
  go_ret
  exact ⟨rfl, HA.out.below⟩
theorem alive_calls (w : World) (hg : Gl w) : Calls Tryd.prog 9 #[] w fun e w' => e = .returned (.bool true) ∧ Below w.heap.size w w' :=
  alive_of (ad4 192 0 2 129) adB (ad4 192 0 2 128) (ad4 127 1 1 1) rfl rfl rfl rfl (Lib.hid (fun w hg => by have := parse_calls ⟨#[49, 57, 50, 46, 48, 46, 50, 46, 49, 50, 57]⟩ (by decide) w hg; rwa [show (⟨#[49, 57, 50, 46, 48, 46, 50, 46, 49, 50, 57]⟩ : ByteArray).data.toList = ali1 from rfl, ali1_read] at this)) (Lib.hid (fun w hg => by have := parse_calls ⟨#[50, 48, 48, 49, 58, 100, 98, 56, 58, 48, 58, 48, 58, 49, 58, 48, 58, 48, 58, 49]⟩ (by decide) w hg; rwa [show (⟨#[50, 48, 48, 49, 58, 100, 98, 56, 58, 48, 58, 48, 58, 49, 58, 48, 58, 48, 58, 49]⟩ : ByteArray).data.toList = ali2 from rfl, ali2_read] at this)) (Lib.hid (fun w hg => by have := parse_calls ⟨#[49, 58, 58, 50, 58, 58, 51]⟩ (by decide) w hg; rwa [show (⟨#[49, 58, 58, 50, 58, 58, 51]⟩ : ByteArray).data.toList = ali3 from rfl, ali3_read] at this)) (Lib.hid (fun w => by have := mask_calls (ad4 192 0 2 129) (ad4_ok _ _ _ _) 25 w; rwa [ali_mask.1, ali_mask.2] at this)) (Lib.hid (fun w => fourL_calls 192 0 2 129 (by decide) (by decide) (by decide) (by decide) w)) (Lib.hid (fun w => fourL_calls 192 0 2 128 (by decide) (by decide) (by decide) (by decide) w)) (Lib.hid (fun w => fourL_calls 127 1 1 1 (by decide) (by decide) (by decide) (by decide) w)) (Lib.hid (fun w => by have := valid_calls (ad4 192 0 2 129) (ad4_ok _ _ _ _) w; rwa [ali_valid] at this)) (Lib.hid (fun w => by have := kind_calls (ad4 192 0 2 129) (ad4_ok _ _ _ _) w; rwa [ali_kind.1] at this)) (Lib.hid (fun w => by have := kind_calls (ad4 127 1 1 1) (ad4_ok _ _ _ _) w; rwa [ali_kind.2] at this)) (Lib.hid (fun w hg => by have := print_calls adB rfl w hg; rwa [ali_print] at this)) (Lib.hid (fun w => by have := less_calls (ad4 192 0 2 129) adB (ad4_ok _ _ _ _) rfl w; rwa [ali_less] at this)) (Lib.hid (fun w => by have := within_calls (ad4 192 0 2 129) (ad4 192 0 2 128) (ad4_ok _ _ _ _) (ad4_ok _ _ _ _) 25 w; rwa [ali_within.1] at this)) (Lib.hid (fun w => by have := within_calls (ad4 192 0 2 129) (ad4 192 0 2 128) (ad4_ok _ _ _ _) (ad4_ok _ _ _ _) 33 w; rwa [ali_within.2] at this)) w hg
end Go.Proofs.YtakdcndkpipfbaaDoor.Ad
