/- Walks of the law AddrNets, by case. -/
import Derived.Test.YtakdcndkpipfbaaDoorCb
namespace Go.Proofs.YtakdcndkpipfbaaDoor.Ad
set_option linter.unusedVariables false
set_option linter.unusedSimpArgs false
open Go.RowKit W
set_option maxRecDepth 100000 in
set_option maxHeartbeats 4000000 in
theorem nets_sd_wide (a b x y z u : Addr) (n m : Int) (ha : a.ok) (hb : b.ok) (hx : x.ok) (hy : y.ok) (hz : z.ok) (hu : u.ok) (q1 : ∀ w, (binOp .eql 24 (.agg x.cells) (.agg y.cells)).run Tryd.prog w = .ok (.bool true) w) (v4 : (a.v == 4) = false) (r1 : (decide (m < 0)) = false) (r2 : (decide (128 < m)) = false) (q2 : ∀ w, (binOp .neq 24 (.agg z.cells) (.agg u.cells)).run Tryd.prog w = .ok (.bool false) w) (r3 : (decide (n < m)) = true) (HX : Hid (∀ w, Calls Tryd.prog 10 #[.agg a.cells, .int .i64 n] w fun e w' => e = .returned (.tuple #[.agg x.cells, .int .i64 0]) ∧ Below w.heap.size w w')) (HY : Hid (∀ w, Calls Tryd.prog 10 #[.agg b.cells, .int .i64 n] w fun e w' => e = .returned (.tuple #[.agg y.cells, .int .i64 0]) ∧ Below w.heap.size w w')) (HIN : Hid (∀ w, Calls Tryd.prog 20 #[.agg a.cells, .agg b.cells, .int .i64 n] w fun e w' => e = .returned (.bool true) ∧ Below w.heap.size w w')) (HIN2 : Hid (∀ w, Calls Tryd.prog 20 #[.agg b.cells, .agg a.cells, .int .i64 n] w fun e w' => e = .returned (.bool true) ∧ Below w.heap.size w w')) (HZ : Hid (∀ w, Calls Tryd.prog 10 #[.agg x.cells, .int .i64 m] w fun e w' => e = .returned (.tuple #[.agg z.cells, .int .i64 0]) ∧ Below w.heap.size w w')) (HU : Hid (∀ w, Calls Tryd.prog 10 #[.agg a.cells, .int .i64 (min n m)] w fun e w' => e = .returned (.tuple #[.agg u.cells, .int .i64 0]) ∧ Below w.heap.size w w')) (HLS : Hid (∀ w, Calls Tryd.prog 18 #[.agg a.cells, .agg x.cells] w fun e w' => e = .returned (.bool false) ∧ Below w.heap.size w w')) (HW1 : Hid (∀ w, Calls Tryd.prog 20 #[.agg a.cells, .agg x.cells, .int .i64 n] w fun e w' => e = .returned (.bool true) ∧ Below w.heap.size w w')) (HW2 : Hid (∀ w, Calls Tryd.prog 20 #[.agg x.cells, .agg a.cells, .int .i64 n] w fun e w' => e = .returned (.bool true) ∧ Below w.heap.size w w')) (w : World) (hg : Gl w) : Calls Tryd.prog 7 #[.agg a.cells, .agg b.cells, .int .i64 n, .int .i64 m] w fun e w' => e = .returned (.bool true) ∧ Below w.heap.size w w' := by
  have HG := Lib.hid hg
  have z0 := zero_ok
  clear hg
  go_enter Tryd.func7, Tryd.ntmps7
  go_upto_region 1 with fail
  refine wp_named fun W hW => ?_
  have HA := Lib.hid (Bl.two hW HG.out)
  clear hW
  go_upto_region 4 with (go_at_call 9; (first | (with_reducible refine (alive_calls _ HA.out.gl).mono ?_)); rintro e W9 ⟨rfl, hB9⟩; have HA := Lib.hid (HA.out.later hB9); clear hB9)
  go_upto_region 5 with (first | (refine wpList_load_blk rfl 24 _ rfl w.heap.size 24 _ _ rfl (HA.out.nth 0 rfl) Tryd.underlying24 rfl (by as_aux_lemma => exact szc ha) ?_) | (go_at_call 10; refine (HX.out _).mono ?_; rintro e W3 ⟨rfl, hB5⟩) | (refine wpList_store_blk rfl 24 _ _ rfl W3.heap.size 24 zeroAd.cells x.cells rfl rfl (Blk.new _ _ _) (by first | rfl | rw [csize hx, csize zero_ok]) (szc hx) (one_cells _) ?_; intro W4 P4))
  obtain ⟨B5, b5, s5, t5⟩ := call_store hB5 P4
  have HA := Lib.hid ((HA.out.later B5.out).add b5.out)
  obtain ⟨G1, hG1⟩ : ∃ g, W3.heap.size = g := ⟨_, rfl⟩
  rw [hG1] at HA ⊢
  simp only [List.cons_append, List.nil_append] at HA
  clear hB5 P4 B5 b5 s5 t5 hG1
  go_upto_region 6 with (first | (refine wpList_load_blk rfl 24 _ rfl (w.heap.size + 1) 24 _ _ rfl (HA.out.nth 1 rfl) Tryd.underlying24 rfl (by as_aux_lemma => exact szc hb) ?_) | (go_at_call 10; refine (HY.out _).mono ?_; rintro e W5 ⟨rfl, hB6⟩) | (refine wpList_store_blk rfl 24 _ _ rfl W5.heap.size 24 zeroAd.cells y.cells rfl rfl (Blk.new _ _ _) (by first | rfl | rw [csize hy, csize zero_ok]) (szc hy) (one_cells _) ?_; intro W6 P6))
  obtain ⟨B6, b6, s6, t6⟩ := call_store hB6 P6
  have HA := Lib.hid ((HA.out.later B6.out).add b6.out)
  obtain ⟨G2, hG2⟩ : ∃ g, W5.heap.size = g := ⟨_, rfl⟩
  rw [hG2] at HA ⊢
  simp only [List.cons_append, List.nil_append] at HA
  clear hB6 P6 B6 b6 s6 t6 hG2
  go_upto_region 11 with (first | (refine wpList_load_blk rfl 24 _ rfl w.heap.size 24 _ _ rfl (HA.out.nth 0 rfl) Tryd.underlying24 rfl (by as_aux_lemma => exact szc ha) ?_) | (refine wpList_load_blk rfl 24 _ rfl (w.heap.size + 1) 24 _ _ rfl (HA.out.nth 1 rfl) Tryd.underlying24 rfl (by as_aux_lemma => exact szc hb) ?_) | (refine wpList_load_blk rfl 24 _ rfl G1 24 _ _ rfl (HA.out.nth 2 rfl) Tryd.underlying24 rfl (by as_aux_lemma => exact szc hx) ?_) | (refine wpList_load_blk rfl 24 _ rfl G2 24 _ _ rfl (HA.out.nth 3 rfl) Tryd.underlying24 rfl (by as_aux_lemma => exact szc hy) ?_) | (go_at_call 20; (first | (with_reducible refine (HIN.out _).mono ?_) | (with_reducible refine (HIN2.out _).mono ?_) | (with_reducible refine (HW1.out _).mono ?_) | (with_reducible refine (HW2.out _).mono ?_)); rintro e W9 ⟨rfl, hB9⟩; have HA := Lib.hid (HA.out.later hB9); clear hB9))
  go_upto_region 12 with (first | (refine wpList_load_blk rfl 24 _ rfl G1 24 _ _ rfl (HA.out.nth 2 rfl) Tryd.underlying24 rfl (by as_aux_lemma => exact szc hx) ?_) | (go_at_call 10; refine (HZ.out _).mono ?_; rintro e W7 ⟨rfl, hB12⟩) | (refine wpList_store_blk rfl 24 _ _ rfl W7.heap.size 24 zeroAd.cells z.cells rfl rfl (Blk.new _ _ _) (by first | rfl | rw [csize hz, csize zero_ok]) (szc hz) (one_cells _) ?_; intro W8 P8))
  obtain ⟨B12, b12, s12, t12⟩ := call_store hB12 P8
  have HA := Lib.hid ((HA.out.later B12.out).add b12.out)
  obtain ⟨G3, hG3⟩ : ∃ g, W7.heap.size = g := ⟨_, rfl⟩
  rw [hG3] at HA ⊢
  simp only [List.cons_append, List.nil_append] at HA
  clear hB12 P8 B12 b12 s12 t12 hG3
  go_upto_region 13 with (first | (refine wpList_load_blk rfl 24 _ rfl w.heap.size 24 _ _ rfl (HA.out.nth 0 rfl) Tryd.underlying24 rfl (by as_aux_lemma => exact szc ha) ?_) | (go_at_call 10; refine (HU.out _).mono ?_; rintro e W9 ⟨rfl, hB13⟩) | (refine wpList_store_blk rfl 24 _ _ rfl W9.heap.size 24 zeroAd.cells u.cells rfl rfl (Blk.new _ _ _) (by first | rfl | rw [csize hu, csize zero_ok]) (szc hu) (one_cells _) ?_; intro W10 P10))
  obtain ⟨B13, b13, s13, t13⟩ := call_store hB13 P10
  have HA := Lib.hid ((HA.out.later B13.out).add b13.out)
  obtain ⟨G4, hG4⟩ : ∃ g, W9.heap.size = g := ⟨_, rfl⟩
  rw [hG4] at HA ⊢
  simp only [List.cons_append, List.nil_append] at HA
  clear hB13 P10 B13 b13 s13 t13 hG4
  have cv := cell_v (HA.out.nth 0 rfl)
  go_wp2_with (first | (refine wpList_load_blk rfl 24 _ rfl w.heap.size 24 _ _ rfl (HA.out.nth 0 rfl) Tryd.underlying24 rfl (by as_aux_lemma => exact szc ha) ?_) | (refine wpList_load_blk rfl 24 _ rfl (w.heap.size + 1) 24 _ _ rfl (HA.out.nth 1 rfl) Tryd.underlying24 rfl (by as_aux_lemma => exact szc hb) ?_) | (refine wpList_load_blk rfl 24 _ rfl G1 24 _ _ rfl (HA.out.nth 2 rfl) Tryd.underlying24 rfl (by as_aux_lemma => exact szc hx) ?_) | (refine wpList_load_blk rfl 24 _ rfl G2 24 _ _ rfl (HA.out.nth 3 rfl) Tryd.underlying24 rfl (by as_aux_lemma => exact szc hy) ?_) | (refine wpList_load_blk rfl 24 _ rfl G3 24 _ _ rfl (HA.out.nth 4 rfl) Tryd.underlying24 rfl (by as_aux_lemma => exact szc hz) ?_) | (refine wpList_load_blk rfl 24 _ rfl G4 24 _ _ rfl (HA.out.nth 5 rfl) Tryd.underlying24 rfl (by as_aux_lemma => exact szc hu) ?_) | (go_at_call 20; (first | (with_reducible refine (HIN.out _).mono ?_) | (with_reducible refine (HIN2.out _).mono ?_) | (with_reducible refine (HW1.out _).mono ?_) | (with_reducible refine (HW2.out _).mono ?_)); rintro e W9 ⟨rfl, hB9⟩; have HA := Lib.hid (HA.out.later hB9); clear hB9) | (go_at_call 18; (first | (with_reducible refine (HLS.out _).mono ?_)); rintro e W9 ⟨rfl, hB9⟩; have HA := Lib.hid (HA.out.later hB9); clear hB9))
  go_ret
  exact ⟨rfl, HA.out.below⟩
set_option maxRecDepth 100000 in
set_option maxHeartbeats 4000000 in
theorem nets_sd_thin (a b x y z u : Addr) (n m : Int) (ha : a.ok) (hb : b.ok) (hx : x.ok) (hy : y.ok) (hz : z.ok) (hu : u.ok) (q1 : ∀ w, (binOp .eql 24 (.agg x.cells) (.agg y.cells)).run Tryd.prog w = .ok (.bool true) w) (v4 : (a.v == 4) = false) (r1 : (decide (m < 0)) = false) (r2 : (decide (128 < m)) = false) (q2 : ∀ w, (binOp .neq 24 (.agg z.cells) (.agg u.cells)).run Tryd.prog w = .ok (.bool false) w) (r3 : (decide (n < m)) = false) (HX : Hid (∀ w, Calls Tryd.prog 10 #[.agg a.cells, .int .i64 n] w fun e w' => e = .returned (.tuple #[.agg x.cells, .int .i64 0]) ∧ Below w.heap.size w w')) (HY : Hid (∀ w, Calls Tryd.prog 10 #[.agg b.cells, .int .i64 n] w fun e w' => e = .returned (.tuple #[.agg y.cells, .int .i64 0]) ∧ Below w.heap.size w w')) (HIN : Hid (∀ w, Calls Tryd.prog 20 #[.agg a.cells, .agg b.cells, .int .i64 n] w fun e w' => e = .returned (.bool true) ∧ Below w.heap.size w w')) (HIN2 : Hid (∀ w, Calls Tryd.prog 20 #[.agg b.cells, .agg a.cells, .int .i64 n] w fun e w' => e = .returned (.bool true) ∧ Below w.heap.size w w')) (HZ : Hid (∀ w, Calls Tryd.prog 10 #[.agg x.cells, .int .i64 m] w fun e w' => e = .returned (.tuple #[.agg z.cells, .int .i64 0]) ∧ Below w.heap.size w w')) (HU : Hid (∀ w, Calls Tryd.prog 10 #[.agg a.cells, .int .i64 (min n m)] w fun e w' => e = .returned (.tuple #[.agg u.cells, .int .i64 0]) ∧ Below w.heap.size w w')) (HLS : Hid (∀ w, Calls Tryd.prog 18 #[.agg a.cells, .agg x.cells] w fun e w' => e = .returned (.bool false) ∧ Below w.heap.size w w')) (HW1 : Hid (∀ w, Calls Tryd.prog 20 #[.agg a.cells, .agg x.cells, .int .i64 n] w fun e w' => e = .returned (.bool true) ∧ Below w.heap.size w w')) (HW2 : Hid (∀ w, Calls Tryd.prog 20 #[.agg x.cells, .agg a.cells, .int .i64 n] w fun e w' => e = .returned (.bool true) ∧ Below w.heap.size w w')) (HW3 : Hid (∀ w, Calls Tryd.prog 20 #[.agg a.cells, .agg b.cells, .int .i64 m] w fun e w' => e = .returned (.bool true) ∧ Below w.heap.size w w')) (w : World) (hg : Gl w) : Calls Tryd.prog 7 #[.agg a.cells, .agg b.cells, .int .i64 n, .int .i64 m] w fun e w' => e = .returned (.bool true) ∧ Below w.heap.size w w' := by
  have HG := Lib.hid hg
  have z0 := zero_ok
  clear hg
  go_enter Tryd.func7, Tryd.ntmps7
  go_upto_region 1 with fail
  refine wp_named fun W hW => ?_
  have HA := Lib.hid (Bl.two hW HG.out)
  clear hW
  go_upto_region 4 with (go_at_call 9; (first | (with_reducible refine (alive_calls _ HA.out.gl).mono ?_)); rintro e W9 ⟨rfl, hB9⟩; have HA := Lib.hid (HA.out.later hB9); clear hB9)
  go_upto_region 5 with (first | (refine wpList_load_blk rfl 24 _ rfl w.heap.size 24 _ _ rfl (HA.out.nth 0 rfl) Tryd.underlying24 rfl (by as_aux_lemma => exact szc ha) ?_) | (go_at_call 10; refine (HX.out _).mono ?_; rintro e W3 ⟨rfl, hB5⟩) | (refine wpList_store_blk rfl 24 _ _ rfl W3.heap.size 24 zeroAd.cells x.cells rfl rfl (Blk.new _ _ _) (by first | rfl | rw [csize hx, csize zero_ok]) (szc hx) (one_cells _) ?_; intro W4 P4))
  obtain ⟨B5, b5, s5, t5⟩ := call_store hB5 P4
  have HA := Lib.hid ((HA.out.later B5.out).add b5.out)
  obtain ⟨G1, hG1⟩ : ∃ g, W3.heap.size = g := ⟨_, rfl⟩
  rw [hG1] at HA ⊢
  simp only [List.cons_append, List.nil_append] at HA
  clear hB5 P4 B5 b5 s5 t5 hG1
  go_upto_region 6 with (first | (refine wpList_load_blk rfl 24 _ rfl (w.heap.size + 1) 24 _ _ rfl (HA.out.nth 1 rfl) Tryd.underlying24 rfl (by as_aux_lemma => exact szc hb) ?_) | (go_at_call 10; refine (HY.out _).mono ?_; rintro e W5 ⟨rfl, hB6⟩) | (refine wpList_store_blk rfl 24 _ _ rfl W5.heap.size 24 zeroAd.cells y.cells rfl rfl (Blk.new _ _ _) (by first | rfl | rw [csize hy, csize zero_ok]) (szc hy) (one_cells _) ?_; intro W6 P6))
  obtain ⟨B6, b6, s6, t6⟩ := call_store hB6 P6
  have HA := Lib.hid ((HA.out.later B6.out).add b6.out)
  obtain ⟨G2, hG2⟩ : ∃ g, W5.heap.size = g := ⟨_, rfl⟩
  rw [hG2] at HA ⊢
  simp only [List.cons_append, List.nil_append] at HA
  clear hB6 P6 B6 b6 s6 t6 hG2
  go_upto_region 11 with (first | (refine wpList_load_blk rfl 24 _ rfl w.heap.size 24 _ _ rfl (HA.out.nth 0 rfl) Tryd.underlying24 rfl (by as_aux_lemma => exact szc ha) ?_) | (refine wpList_load_blk rfl 24 _ rfl (w.heap.size + 1) 24 _ _ rfl (HA.out.nth 1 rfl) Tryd.underlying24 rfl (by as_aux_lemma => exact szc hb) ?_) | (refine wpList_load_blk rfl 24 _ rfl G1 24 _ _ rfl (HA.out.nth 2 rfl) Tryd.underlying24 rfl (by as_aux_lemma => exact szc hx) ?_) | (refine wpList_load_blk rfl 24 _ rfl G2 24 _ _ rfl (HA.out.nth 3 rfl) Tryd.underlying24 rfl (by as_aux_lemma => exact szc hy) ?_) | (go_at_call 20; (first | (with_reducible refine (HIN.out _).mono ?_) | (with_reducible refine (HIN2.out _).mono ?_) | (with_reducible refine (HW1.out _).mono ?_) | (with_reducible refine (HW2.out _).mono ?_) | (with_reducible refine (HW3.out _).mono ?_)); rintro e W9 ⟨rfl, hB9⟩; have HA := Lib.hid (HA.out.later hB9); clear hB9))
  go_upto_region 12 with (first | (refine wpList_load_blk rfl 24 _ rfl G1 24 _ _ rfl (HA.out.nth 2 rfl) Tryd.underlying24 rfl (by as_aux_lemma => exact szc hx) ?_) | (go_at_call 10; refine (HZ.out _).mono ?_; rintro e W7 ⟨rfl, hB12⟩) | (refine wpList_store_blk rfl 24 _ _ rfl W7.heap.size 24 zeroAd.cells z.cells rfl rfl (Blk.new _ _ _) (by first | rfl | rw [csize hz, csize zero_ok]) (szc hz) (one_cells _) ?_; intro W8 P8))
  obtain ⟨B12, b12, s12, t12⟩ := call_store hB12 P8
  have HA := Lib.hid ((HA.out.later B12.out).add b12.out)
  obtain ⟨G3, hG3⟩ : ∃ g, W7.heap.size = g := ⟨_, rfl⟩
  rw [hG3] at HA ⊢
  simp only [List.cons_append, List.nil_append] at HA
  clear hB12 P8 B12 b12 s12 t12 hG3
  go_upto_region 13 with (first | (refine wpList_load_blk rfl 24 _ rfl w.heap.size 24 _ _ rfl (HA.out.nth 0 rfl) Tryd.underlying24 rfl (by as_aux_lemma => exact szc ha) ?_) | (go_at_call 10; refine (HU.out _).mono ?_; rintro e W9 ⟨rfl, hB13⟩) | (refine wpList_store_blk rfl 24 _ _ rfl W9.heap.size 24 zeroAd.cells u.cells rfl rfl (Blk.new _ _ _) (by first | rfl | rw [csize hu, csize zero_ok]) (szc hu) (one_cells _) ?_; intro W10 P10))
  obtain ⟨B13, b13, s13, t13⟩ := call_store hB13 P10
  have HA := Lib.hid ((HA.out.later B13.out).add b13.out)
  obtain ⟨G4, hG4⟩ : ∃ g, W9.heap.size = g := ⟨_, rfl⟩
  rw [hG4] at HA ⊢
  simp only [List.cons_append, List.nil_append] at HA
  clear hB13 P10 B13 b13 s13 t13 hG4
  have cv := cell_v (HA.out.nth 0 rfl)
  go_wp2_with (first | (refine wpList_load_blk rfl 24 _ rfl w.heap.size 24 _ _ rfl (HA.out.nth 0 rfl) Tryd.underlying24 rfl (by as_aux_lemma => exact szc ha) ?_) | (refine wpList_load_blk rfl 24 _ rfl (w.heap.size + 1) 24 _ _ rfl (HA.out.nth 1 rfl) Tryd.underlying24 rfl (by as_aux_lemma => exact szc hb) ?_) | (refine wpList_load_blk rfl 24 _ rfl G1 24 _ _ rfl (HA.out.nth 2 rfl) Tryd.underlying24 rfl (by as_aux_lemma => exact szc hx) ?_) | (refine wpList_load_blk rfl 24 _ rfl G2 24 _ _ rfl (HA.out.nth 3 rfl) Tryd.underlying24 rfl (by as_aux_lemma => exact szc hy) ?_) | (refine wpList_load_blk rfl 24 _ rfl G3 24 _ _ rfl (HA.out.nth 4 rfl) Tryd.underlying24 rfl (by as_aux_lemma => exact szc hz) ?_) | (refine wpList_load_blk rfl 24 _ rfl G4 24 _ _ rfl (HA.out.nth 5 rfl) Tryd.underlying24 rfl (by as_aux_lemma => exact szc hu) ?_) | (go_at_call 20; (first | (with_reducible refine (HIN.out _).mono ?_) | (with_reducible refine (HIN2.out _).mono ?_) | (with_reducible refine (HW1.out _).mono ?_) | (with_reducible refine (HW2.out _).mono ?_) | (with_reducible refine (HW3.out _).mono ?_)); rintro e W9 ⟨rfl, hB9⟩; have HA := Lib.hid (HA.out.later hB9); clear hB9) | (go_at_call 18; (first | (with_reducible refine (HLS.out _).mono ?_)); rintro e W9 ⟨rfl, hB9⟩; have HA := Lib.hid (HA.out.later hB9); clear hB9))
  go_ret
  exact ⟨rfl, HA.out.below⟩
end Go.Proofs.YtakdcndkpipfbaaDoor.Ad
