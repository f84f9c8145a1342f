/- Contract of the law AddrBack. Conditions: an address has sixteen bytes; a text is shorter than 2^32 - 15; the library tables hold what its text lays. -/
import Derived.Test.YtakdcndkpipfbaaDoorBt
import Derived.Test.YtakdcndkpipfbaaDoorCb
import Derived.Test.YtakdcndkpipfbaaDoorCq
import Derived.Test.YtakdcndkpipfbaaDoorCr
namespace Go.Proofs.YtakdcndkpipfbaaDoor.Ad
set_option linter.unusedVariables false
set_option linter.unusedSimpArgs false
open Go.RowKit W
theorem Bl.drop {w W : World} {l r : List (Nat × Addr)} (h : Bl w (l ++ r) W) : Bl w l W := ⟨h.below, h.gl, fun p hp => h.all p (List.mem_append.2 (Or.inl hp))⟩
set_option maxRecDepth 100000 in
set_option maxHeartbeats 4000000 in
theorem back_of (a x y b : Addr) (er fr gr n2 n3 n4 : Int) (M g m : Nat) (v vx : Bool) (s sx sa : ByteArray) (t : Bool → ByteArray) (ha : a.ok) (hx : x.ok) (hy : y.ok) (hb : b.ok)
    (c5 : Hid (er = 0 ∨ er = 30 ∧ (∀ w, (binOp .neq 24 (.agg x.cells) (.agg #[.int .i64 0, .int .u8 0, .int .u8 0, .int .u8 0, .int .u8 0, .int .u8 0, .int .u8 0, .int .u8 0, .int .u8 0, .int .u8 0, .int .u8 0, .int .u8 0, .int .u8 0, .int .u8 0, .int .u8 0, .int .u8 0, .int .u8 0])).run Tryd.prog w = .ok (.bool false) w))) (c8 : Hid (er = 0 → fr = 0 ∧ (∀ w, (binOp .neq 24 (.agg y.cells) (.agg x.cells)).run Tryd.prog w = .ok (.bool false) w) ∧ vx = true))
    (c12 : Hid (v = false → sa = ⟨#[]⟩)) (c14 : Hid (v = true → gr = 0 ∧ (∀ w, (binOp .neq 24 (.agg b.cells) (.agg a.cells)).run Tryd.prog w = .ok (.bool false) w))) (qa : (∀ w, (binOp .neq 24 (.agg a.cells) (.agg a.cells)).run Tryd.prog w = .ok (.bool false) w))
    (hM : Hid (wrap64 (1 + wrap64 ((IntKind.u64.wrap n2).tmod 4)) = (M : Int))) (hg : Hid (wrap64 ((IntKind.u64.wrap n3).tmod 8) = (g : Int))) (hm : Hid (wrap64 ((IntKind.u64.wrap n4).tmod 9) = (m : Int)))
    (HP : Hid (∀ w, Gl w → Calls Tryd.prog 22 #[.string s] w fun e w' => e = .returned (.tuple #[.agg x.cells, .int .i64 er]) ∧ Below w.heap.size w w')) (HPX : Hid (∀ w, Gl w → Calls Tryd.prog 16 #[.agg x.cells] w fun e w' => e = .returned (.string sx) ∧ Below w.heap.size w w')) (HPY : Hid (∀ w, Gl w → Calls Tryd.prog 22 #[.string sx] w fun e w' => e = .returned (.tuple #[.agg y.cells, .int .i64 fr]) ∧ Below w.heap.size w w')) (HVX : Hid (∀ w, Calls Tryd.prog 12 #[.agg x.cells] w fun e w' => e = .returned (.bool vx) ∧ Below w.heap.size w w')) (HVA : Hid (∀ w, Calls Tryd.prog 12 #[.agg a.cells] w fun e w' => e = .returned (.bool v) ∧ Below w.heap.size w w')) (HPA : Hid (∀ w, Gl w → Calls Tryd.prog 16 #[.agg a.cells] w fun e w' => e = .returned (.string sa) ∧ Below w.heap.size w w')) (HPB : Hid (∀ w, Gl w → Calls Tryd.prog 22 #[.string sa] w fun e w' => e = .returned (.tuple #[.agg b.cells, .int .i64 gr]) ∧ Below w.heap.size w w')) (HLG : Hid (∀ up w, Calls Tryd.prog 24 #[.agg a.cells, .int .i64 (M : Nat), .bool up, .int .i64 (g : Nat), .int .i64 (m : Nat)] w fun e w' => e = .returned (.string (t up)) ∧ Below w.heap.size w w')) (HPL : Hid (v = true → ¬ a.v = 4 → ∀ up w, Gl w → Calls Tryd.prog 22 #[.string (t up)] w fun e w' => e = .returned (.tuple #[.agg a.cells, .int .i64 0]) ∧ Below w.heap.size w w')) (w : World) (hgl : Gl w) : Calls Tryd.prog 5 #[.agg a.cells, .string s, .int .i64 n2, .int .i64 n3, .int .i64 n4] w fun e w' => e = .returned (.bool true) ∧ Below w.heap.size w w' := by
  have HG := Lib.hid hgl
  have z0 := zero_ok
  clear hgl
  go_enter Tryd.func5, Tryd.ntmps5
  go_upto_region 1 with fail
  refine wp_named fun W hW => ?_
  have HA := Lib.hid (Bl.one hW HG.out)
  clear hW
  go_upto_region 4 with (go_at_call 9; (first | (with_reducible refine (alive_calls _ HA.out.gl).mono ?_)); rintro e W9 ⟨rfl, hB9⟩; have HA := Lib.hid (HA.out.later hB9); clear hB9)
  go_upto_region 5 with (first | (go_at_call 22; refine (HP.out _ HA.out.gl).mono ?_; rintro e W3 ⟨rfl, hB5⟩) | (refine wpList_store_blk rfl 24 _ _ rfl W3.heap.size 24 zeroAd.cells x.cells rfl rfl (Blk.new _ _ _) (by first | rfl | rw [csize hx, csize zero_ok]) (szc hx) (one_cells _) ?_; intro W4 P4))
  obtain ⟨B5, b5, s5, t5⟩ := call_store hB5 P4
  have HA := Lib.hid ((HA.out.later B5.out).add b5.out)
  obtain ⟨G1, hG1⟩ : ∃ g, W3.heap.size = g := ⟨_, rfl⟩
  rw [hG1] at HA ⊢
  simp only [List.cons_append, List.nil_append] at HA
  clear hB5 P4 B5 b5 s5 t5 hG1
  go_cut [39] (fun u wx => u = .bool false ∧ W4 = wx)
  case first =>
    rcases c5.out with rfl | ⟨rfl, hq⟩
    · go_wp2
      go_meet
      case rel => exact ⟨rfl, rfl⟩
    · go_wp2_with ((refine wpList_load_blk rfl 24 _ rfl G1 24 _ _ rfl (HA.out.nth 1 rfl) Tryd.underlying24 rfl (by as_aux_lemma => exact szc hx) ?_))
      go_meet
      case rel => exact ⟨rfl, rfl⟩
  case rest =>
  obtain ⟨rfl, rfl⟩ := hcut
  go_upto_region 8 with (first | (refine wpList_load_blk rfl 24 _ rfl G1 24 _ _ rfl (HA.out.nth 1 rfl) Tryd.underlying24 rfl (by as_aux_lemma => exact szc hx) ?_) | (go_at_call 16; (with_reducible refine (HPX.out _ HA.out.gl).mono ?_); rintro e W9 ⟨rfl, hB9⟩; have HA := Lib.hid (HA.out.later hB9); clear hB9) | (go_at_call 22; refine (HPY.out _ HA.out.gl).mono ?_; rintro e W6 ⟨rfl, hB8⟩) | (refine wpList_store_blk rfl 24 _ _ rfl W6.heap.size 24 zeroAd.cells y.cells rfl rfl (Blk.new _ _ _) (by first | rfl | rw [csize hy, csize zero_ok]) (szc hy) (one_cells _) ?_; intro W7 P7))
  obtain ⟨B8, b8, s8, t8⟩ := call_store hB8 P7
  have HA := Lib.hid ((HA.out.later B8.out).add b8.out)
  obtain ⟨G2, hG2⟩ : ∃ g, W6.heap.size = g := ⟨_, rfl⟩
  rw [hG2] at HA ⊢
  simp only [List.cons_append, List.nil_append] at HA
  clear hB8 P7 B8 b8 s8 t8 hG2
  go_cut [61] (fun u wx => u = .bool false ∧ Bl w [(w.heap.size, a), (G1, x), (G2, y)] wx)
  case first =>
    rcases c5.out with rfl | ⟨rfl, hq⟩
    · obtain ⟨rfl, hq, rfl⟩ := c8.out rfl
      go_wp2_with (first | (refine wpList_load_blk rfl 24 _ rfl G1 24 _ _ rfl (HA.out.nth 1 rfl) Tryd.underlying24 rfl (by as_aux_lemma => exact szc hx) ?_) | (refine wpList_load_blk rfl 24 _ rfl G2 24 _ _ rfl (HA.out.nth 2 rfl) Tryd.underlying24 rfl (by as_aux_lemma => exact szc hy) ?_) | (go_at_call 12; (with_reducible refine (HVX.out _).mono ?_); rintro e W9 ⟨rfl, hB9⟩; have HA := Lib.hid (HA.out.later hB9); clear hB9))
      go_meet
      case rel => exact ⟨rfl, HA.out⟩
    · clear hq
      go_wp2_with fail
      go_meet
      case rel => exact ⟨rfl, HA.out⟩
  case rest =>
  obtain ⟨rfl, hA⟩ := hcut
  have HA := Lib.hid (show Bl w ([(w.heap.size, a)] ++ [(G1, x), (G2, y)]) wc from hA).drop
  clear hA c5 c8 HP HPX HPY HVX
  cases v
  · obtain rfl := c12.out rfl
    go_wp2_with (first | (refine wpList_load_blk rfl 24 _ rfl w.heap.size 24 _ _ rfl (HA.out.nth 0 rfl) Tryd.underlying24 rfl (by as_aux_lemma => exact szc ha) ?_) | (go_at_call 12; (with_reducible refine (HVA.out _).mono ?_); rintro e W9 ⟨rfl, hB9⟩; have HA := Lib.hid (HA.out.later hB9); clear hB9) | (go_at_call 16; (with_reducible refine (HPA.out _ HA.out.gl).mono ?_); rintro e W9 ⟨rfl, hB9⟩; have HA := Lib.hid (HA.out.later hB9); clear hB9))
    go_ret
    exact ⟨rfl, HA.out.below⟩
  · obtain ⟨rfl, hq⟩ := c14.out rfl
    have HPL1 := Lib.hid (HPL.out rfl)
    clear HPL
    go_upto_region 13 with (first | (refine wpList_load_blk rfl 24 _ rfl w.heap.size 24 _ _ rfl (HA.out.nth 0 rfl) Tryd.underlying24 rfl (by as_aux_lemma => exact szc ha) ?_) | (go_at_call 12; (with_reducible refine (HVA.out _).mono ?_); rintro e W9 ⟨rfl, hB9⟩; have HA := Lib.hid (HA.out.later hB9); clear hB9))
    go_upto_region 14 with (first | (refine wpList_load_blk rfl 24 _ rfl w.heap.size 24 _ _ rfl (HA.out.nth 0 rfl) Tryd.underlying24 rfl (by as_aux_lemma => exact szc ha) ?_) | (go_at_call 16; (with_reducible refine (HPA.out _ HA.out.gl).mono ?_); rintro e W9 ⟨rfl, hB9⟩; have HA := Lib.hid (HA.out.later hB9); clear hB9) | (go_at_call 22; refine (HPB.out _ HA.out.gl).mono ?_; rintro e W8 ⟨rfl, hB14⟩) | (refine wpList_store_blk rfl 24 _ _ rfl W8.heap.size 24 zeroAd.cells b.cells rfl rfl (Blk.new _ _ _) (by first | rfl | rw [csize hb, csize zero_ok]) (szc hb) (one_cells _) ?_; intro W9 P9))
    obtain ⟨B14, b14, s14, t14⟩ := call_store hB14 P9
    have HA := Lib.hid ((HA.out.later B14.out).add b14.out)
    obtain ⟨G3, hG3⟩ : ∃ g, W8.heap.size = g := ⟨_, rfl⟩
    rw [hG3] at HA ⊢
    simp only [List.cons_append, List.nil_append] at HA
    clear hB14 P9 B14 b14 s14 t14 hG3
    have cv := cell_v (HA.out.nth 0 rfl)
    by_cases h4 : a.v = 4
    · have v4 : (a.v == 4) = true := beq_iff_eq.2 h4
      go_wp2_with (first | (refine wpList_load_blk rfl 24 _ rfl w.heap.size 24 _ _ rfl (HA.out.nth 0 rfl) Tryd.underlying24 rfl (by as_aux_lemma => exact szc ha) ?_) | (refine wpList_load_blk rfl 24 _ rfl G3 24 _ _ rfl (HA.out.nth 1 rfl) Tryd.underlying24 rfl (by as_aux_lemma => exact szc hb) ?_))
      go_ret
      exact ⟨rfl, HA.out.below⟩
    · have HPL2 := Lib.hid (HPL1.out h4)
      clear HPL1
      have v4 : (a.v == 4) = false := beq_eq_false_iff_ne.2 h4
      go_upto_region 21 with (first | (refine wpList_load_blk rfl 24 _ rfl w.heap.size 24 _ _ rfl (HA.out.nth 0 rfl) Tryd.underlying24 rfl (by as_aux_lemma => exact szc ha) ?_) | (refine wpList_load_blk rfl 24 _ rfl G3 24 _ _ rfl (HA.out.nth 1 rfl) Tryd.underlying24 rfl (by as_aux_lemma => exact szc hb) ?_))
      rw [hM.out, hg.out, hm.out]
      have HA := Lib.hid (show Bl w ([(w.heap.size, a)] ++ [(G3, b)]) _ from HA.out).drop
      clear cv v4 h4 HVA HPA HPB hM hg hm hq c14
      go_wp2
      go_loopw [18, 19, 20] (fun u u1 u2 wr => ∃ k : Nat, u = .int .i64 k ∧ k ≤ 2 ∧ Hid (Bl w [(w.heap.size, a)] wr)) (fun u _ _ _ => 2 - (intOf u).toNat)
      case atStart => exact ⟨0, rfl, by omega, HA⟩
      case round =>
        obtain ⟨k, rfl, hk, HA⟩ := hrel
        by_cases hlt : k < 2
        · have e0 : decide ((k : Int) < 2) = true := decide_eq_true (by omega)
          have e0' : decide (k < 2) = true := decide_eq_true (by omega)
          have HK := Lib.hid hlt
          go_upto_region 25 with (first | (refine wpList_load_blk rfl 24 _ rfl w.heap.size 24 _ _ rfl (HA.out.nth 0 rfl) Tryd.underlying24 rfl (by as_aux_lemma => exact szc ha) ?_) | (go_at_call 24; (with_reducible refine (HLG.out _ _).mono ?_); rintro e W9 ⟨rfl, hB9⟩; have HA := Lib.hid (HA.out.later hB9); clear hB9) | (go_at_call 22; refine (HPL2.out _ _ HA.out.gl).mono ?_; rintro e W10 ⟨rfl, hB25⟩) | (refine wpList_store_blk rfl 24 _ _ rfl W10.heap.size 24 zeroAd.cells a.cells rfl rfl (Blk.new _ _ _) (by first | rfl | rw [csize ha, csize zero_ok]) (szc ha) (one_cells _) ?_; intro W11 P11))
          obtain ⟨B25, b25, s25, t25⟩ := call_store hB25 P11
          have HA := Lib.hid ((HA.out.later B25.out).add b25.out)
          obtain ⟨G4, hG4⟩ : ∃ g, W10.heap.size = g := ⟨_, rfl⟩
          rw [hG4] at HA ⊢
          simp only [List.cons_append, List.nil_append] at HA
          clear hB25 P11 B25 b25 s25 t25 hG4
          go_wp2_with (first | (refine wpList_load_blk rfl 24 _ rfl w.heap.size 24 _ _ rfl (HA.out.nth 0 rfl) Tryd.underlying24 rfl (by as_aux_lemma => exact szc ha) ?_) | (refine wpList_load_blk rfl 24 _ rfl G4 24 _ _ rfl (HA.out.nth 1 rfl) Tryd.underlying24 rfl (by as_aux_lemma => exact szc ha) ?_))
          have HA := Lib.hid (show Bl w ([(w.heap.size, a)] ++ [(G4, a)]) _ from HA.out).drop
          exact ⟨⟨k + 1, by go_num, by have := HK.out; omega, HA⟩, by have := HK.out; simp [intOf]; omega⟩
        · have e0 : decide ((k : Int) < 2) = false := decide_eq_false (by omega)
          have e0' : decide (k < 2) = false := decide_eq_false (by omega)
          clear hlt hk
          go_wp2
          go_ret
          exact ⟨rfl, HA.out.below⟩
end Go.Proofs.YtakdcndkpipfbaaDoor.Ad
