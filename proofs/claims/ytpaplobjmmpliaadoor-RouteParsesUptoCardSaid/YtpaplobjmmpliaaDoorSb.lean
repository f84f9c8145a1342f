/- Contract of the reference's line. Conditions: a text is shorter than 2^32. -/
import Derived.Test.YtpaplobjmmpliaaDoorSa
namespace Go.Proofs.YtpaplobjmmpliaaDoor.Ad
set_option linter.unusedVariables false
set_option linter.unusedSimpArgs false
open Go.RowKit W
set_option maxRecDepth 100000 in
set_option maxHeartbeats 4000000 in
theorem rline_no (s : ByteArray) (i k : Int) (h : i < 0 ∨ (¬ i < 0 ∧ k < i)) (H1 : Hid (∀ w, Calls Tryd.prog 35 #[.string s, .int .u8 47] w fun e w' => e = .returned (.int .i64 i) ∧ Below w.heap.size w w')) (H2 : Hid (∀ w, Calls Tryd.prog 35 #[.string s, .int .u8 32] w fun e w' => e = .returned (.int .i64 k) ∧ Below w.heap.size w w'))
    (w : World) : Calls Tryd.prog 36 #[.string s] w fun e w' => e = .returned (.tuple #[.agg zeroRt.cells, .bool false]) ∧ Below w.heap.size w w' := by
  go_enter Tryd.func36, Tryd.ntmps36
  go_upto_region 1 with fail
  refine wp_named fun W hW => ?_
  obtain ⟨bk, BW, sW⟩ := box1 (cs := zeroRt.cells) hW
  clear hW sW
  go_upto_region 2 with (go_at_call 35; refine (H1.out _).mono ?_; rintro e W2 ⟨rfl, hB2⟩)
  have BW := keep BW hB2
  have bk := Lib.hid (bk.out.later hB2 bk.out.lt)
  clear hB2
  go_upto_region 3 with (go_at_call 35; refine (H2.out _).mono ?_; rintro e W3 ⟨rfl, hB3⟩)
  have BW := keep BW hB3
  have bk := Lib.hid (bk.out.later hB3 bk.out.lt)
  clear hB3
  rcases h with h | ⟨h0, h⟩
  · have f1 : decide (i < 0) = true := decide_eq_true h
    clear h
    go_wp2_with (refine wpList_store_blk rfl 44 _ _ rfl w.heap.size 44 zeroRt.cells zeroRt.cells rfl rfl bk.out rfl (rszc zeroRt_ok) (rone _) ?_; intro W9 P9)
    refine bodyPost_ret (v := .tuple #[.agg zeroRt.cells, .bool false]) (by exact results_cell2 (fn := Tryd.f36) rfl _ _ w.heap.size 44 _ _ rfl P9.blk Tryd.underlying44 rfl (rszc zeroRt_ok)) rfl ⟨rfl, P9.below BW.out (Nat.le_refl _) BW.out.size⟩
  · have f0 : decide (i < 0) = false := decide_eq_false (by omega)
    have f1 : decide (k < i) = true := decide_eq_true h
    clear h h0
    go_wp2_with (refine wpList_store_blk rfl 44 _ _ rfl w.heap.size 44 zeroRt.cells zeroRt.cells rfl rfl bk.out rfl (rszc zeroRt_ok) (rone _) ?_; intro W9 P9)
    refine bodyPost_ret (v := .tuple #[.agg zeroRt.cells, .bool false]) (by exact results_cell2 (fn := Tryd.f36) rfl _ _ w.heap.size 44 _ _ rfl P9.blk Tryd.underlying44 rfl (rszc zeroRt_ok)) rfl ⟨rfl, P9.below BW.out (Nat.le_refl _) BW.out.size⟩
set_option maxRecDepth 100000 in
set_option maxHeartbeats 4000000 in
theorem rline_of (s : ByteArray) (i k : Nat) (hik : i + 1 ≤ k) (hk : k + 1 ≤ s.size) (hsz : s.size ≤ 4294967296) (m : Addr) (er n1 n2 : Int) (res : Bool) (hm : m.ok) (HRES : Hid (((er == 0) && decide (0 ≤ n1) && decide (0 ≤ n2)) = res))
    (H1 : Hid (∀ w, Calls Tryd.prog 35 #[.string s, .int .u8 47] w fun e w' => e = .returned (.int .i64 i) ∧ Below w.heap.size w w')) (H2 : Hid (∀ w, Calls Tryd.prog 35 #[.string s, .int .u8 32] w fun e w' => e = .returned (.int .i64 k) ∧ Below w.heap.size w w'))
    (HP : Hid (∀ w, Calls Tryd.prog 55 #[.string (s.extract 0 i)] w fun e w' => e = .returned (.tuple #[.agg m.cells, .int .i64 er]) ∧ Below w.heap.size w w'))
    (HN1 : Hid (∀ w, Calls Tryd.prog 56 #[.string (s.extract (i + 1) k)] w fun e w' => e = .returned (.int .i64 n1) ∧ Below w.heap.size w w'))
    (HN2 : Hid (∀ w, Calls Tryd.prog 56 #[.string (s.extract (k + 1) s.size)] w fun e w' => e = .returned (.int .i64 n2) ∧ Below w.heap.size w w'))
    (w : World) : Calls Tryd.prog 36 #[.string s] w fun e w' => e = .returned (.tuple #[.agg (Rt.cells ⟨m, n1, n2⟩), .bool res]) ∧ Below w.heap.size w w' := by
  have z0 := zero_ok
  have hr : (⟨m, n1, n2⟩ : Rt).ok := hm
  have f0 : decide ((i : Int) < 0) = false := decide_eq_false (by omega)
  have f1 : decide ((k : Int) < (i : Int)) = false := decide_eq_false (by omega)
  have f1' : decide (k < i) = false := decide_eq_false (by omega)
  go_enter Tryd.func36, Tryd.ntmps36
  go_upto_region 1 with fail
  refine wp_named fun W hW => ?_
  obtain ⟨bk, BW, sW⟩ := box1 (cs := zeroRt.cells) hW
  clear hW sW
  go_upto_region 2 with (go_at_call 35; refine (H1.out _).mono ?_; rintro e W2 ⟨rfl, hB2⟩)
  have BW := keep BW hB2
  have bk := Lib.hid (bk.out.later hB2 bk.out.lt)
  clear hB2
  go_upto_region 3 with (go_at_call 35; refine (H2.out _).mono ?_; rintro e W3 ⟨rfl, hB3⟩)
  have BW := keep BW hB3
  have bk := Lib.hid (bk.out.later hB3 bk.out.lt)
  clear hB3
  go_upto_region 6 with (first | (go_at_call 55; refine (HP.out _).mono ?_; rintro e W4 ⟨rfl, hB4⟩) | (refine wpList_store_blk rfl 35 _ _ rfl W4.heap.size 35 zeroAd.cells m.cells rfl rfl (Blk.new _ _ _) (by first | rfl | rw [csize hm, csize zero_ok]) (szc hm) (one_cells _) ?_; intro W5 P5))
  obtain ⟨B5, b6, s5, t5⟩ := call_store hB4 P5
  have BW := keep BW B5.out
  have bk := Lib.hid (bk.out.later B5.out bk.out.lt)
  obtain ⟨G2, hG2⟩ : ∃ g, W4.heap.size = g := ⟨_, rfl⟩
  rw [hG2] at b6 ⊢
  clear hB4 P5 B5 s5 t5 hG2
  go_upto_region 7 with (go_at_call 56; refine (HN1.out _).mono ?_; rintro e W6 ⟨rfl, hB6⟩)
  have b6 := Lib.hid (b6.out.later hB6 b6.out.lt)
  have BW := keep BW hB6
  have bk := Lib.hid (bk.out.later hB6 bk.out.lt)
  clear hB6
  go_upto_region 8 with (go_at_call 56; refine (HN2.out _).mono ?_; rintro e W7 ⟨rfl, hB7⟩)
  have b6 := Lib.hid (b6.out.later hB7 b6.out.lt)
  have BW := keep BW hB7
  have bk := Lib.hid (bk.out.later hB7 bk.out.lt)
  clear hB7
  by_cases he : er = 0
  · have f2 : (er == 0) = true := beq_iff_eq.2 he
    rw [f2] at HRES
    clear he
    by_cases h1 : 0 ≤ n1
    · have f3 : decide (0 ≤ n1) = true := decide_eq_true h1
      rw [f3] at HRES
      by_cases h2 : 0 ≤ n2
      · have f4 : decide (0 ≤ n2) = true := decide_eq_true h2
        rw [f4] at HRES
        have HF : Hid (res = true) := Lib.hid (by rw [← HRES.out]; simp)
        clear HRES
        go_wp2_with (first | (refine wpList_load_blk rfl 35 _ rfl G2 35 _ _ rfl b6.out Tryd.underlying35 rfl (by as_aux_lemma => exact szc hm) ?_) | (refine wpList_build3 rfl 44 0 1 2 _ _ _ rfl (.agg m.cells) (.int .i64 n1) (.int .i64 n2) rfl rfl rfl (Rt.cells ⟨m, n1, n2⟩) (built_rt hm n1 n2) ?_) | (refine wpList_store_blk rfl 44 _ _ rfl w.heap.size 44 zeroRt.cells (Rt.cells ⟨m, n1, n2⟩) rfl rfl bk.out (by rw [rcs hr, rcs zeroRt_ok]) (rszc hr) (rone _) ?_; intro W9 P9))
        refine bodyPost_ret (v := .tuple #[.agg (Rt.cells ⟨m, n1, n2⟩), .bool true]) (by exact results_cell2 (fn := Tryd.f36) rfl _ _ w.heap.size 44 _ _ rfl P9.blk Tryd.underlying44 rfl (rszc hr)) rfl ⟨by rw [HF.out], P9.below BW.out (Nat.le_refl _) BW.out.size⟩
      · have f4 : decide (0 ≤ n2) = false := decide_eq_false h2
        rw [f4] at HRES
        have HF : Hid (res = false) := Lib.hid (by rw [← HRES.out]; simp)
        clear HRES
        go_wp2_with (first | (refine wpList_load_blk rfl 35 _ rfl G2 35 _ _ rfl b6.out Tryd.underlying35 rfl (by as_aux_lemma => exact szc hm) ?_) | (refine wpList_build3 rfl 44 0 1 2 _ _ _ rfl (.agg m.cells) (.int .i64 n1) (.int .i64 n2) rfl rfl rfl (Rt.cells ⟨m, n1, n2⟩) (built_rt hm n1 n2) ?_) | (refine wpList_store_blk rfl 44 _ _ rfl w.heap.size 44 zeroRt.cells (Rt.cells ⟨m, n1, n2⟩) rfl rfl bk.out (by rw [rcs hr, rcs zeroRt_ok]) (rszc hr) (rone _) ?_; intro W9 P9))
        refine bodyPost_ret (v := .tuple #[.agg (Rt.cells ⟨m, n1, n2⟩), .bool false]) (by exact results_cell2 (fn := Tryd.f36) rfl _ _ w.heap.size 44 _ _ rfl P9.blk Tryd.underlying44 rfl (rszc hr)) rfl ⟨by rw [HF.out], P9.below BW.out (Nat.le_refl _) BW.out.size⟩
    · have f3 : decide (0 ≤ n1) = false := decide_eq_false h1
      rw [f3] at HRES
      have HF : Hid (res = false) := Lib.hid (by rw [← HRES.out]; simp)
      clear HRES
      go_wp2_with (first | (refine wpList_load_blk rfl 35 _ rfl G2 35 _ _ rfl b6.out Tryd.underlying35 rfl (by as_aux_lemma => exact szc hm) ?_) | (refine wpList_build3 rfl 44 0 1 2 _ _ _ rfl (.agg m.cells) (.int .i64 n1) (.int .i64 n2) rfl rfl rfl (Rt.cells ⟨m, n1, n2⟩) (built_rt hm n1 n2) ?_) | (refine wpList_store_blk rfl 44 _ _ rfl w.heap.size 44 zeroRt.cells (Rt.cells ⟨m, n1, n2⟩) rfl rfl bk.out (by rw [rcs hr, rcs zeroRt_ok]) (rszc hr) (rone _) ?_; intro W9 P9))
      refine bodyPost_ret (v := .tuple #[.agg (Rt.cells ⟨m, n1, n2⟩), .bool false]) (by exact results_cell2 (fn := Tryd.f36) rfl _ _ w.heap.size 44 _ _ rfl P9.blk Tryd.underlying44 rfl (rszc hr)) rfl ⟨by rw [HF.out], P9.below BW.out (Nat.le_refl _) BW.out.size⟩
  · have f2 : (er == 0) = false := beq_eq_false_iff_ne.2 he
    rw [f2] at HRES
    clear he
    have HF : Hid (res = false) := Lib.hid (by rw [← HRES.out]; simp)
    clear HRES
    go_wp2_with (first | (refine wpList_load_blk rfl 35 _ rfl G2 35 _ _ rfl b6.out Tryd.underlying35 rfl (by as_aux_lemma => exact szc hm) ?_) | (refine wpList_build3 rfl 44 0 1 2 _ _ _ rfl (.agg m.cells) (.int .i64 n1) (.int .i64 n2) rfl rfl rfl (Rt.cells ⟨m, n1, n2⟩) (built_rt hm n1 n2) ?_) | (refine wpList_store_blk rfl 44 _ _ rfl w.heap.size 44 zeroRt.cells (Rt.cells ⟨m, n1, n2⟩) rfl rfl bk.out (by rw [rcs hr, rcs zeroRt_ok]) (rszc hr) (rone _) ?_; intro W9 P9))
    refine bodyPost_ret (v := .tuple #[.agg (Rt.cells ⟨m, n1, n2⟩), .bool false]) (by exact results_cell2 (fn := Tryd.f36) rfl _ _ w.heap.size 44 _ _ rfl P9.blk Tryd.underlying44 rfl (rszc hr)) rfl ⟨by rw [HF.out], P9.below BW.out (Nat.le_refl _) BW.out.size⟩
theorem place_in {l : List UInt8} {c : UInt8} : placeV l c = -1 ∨ ∃ i : Nat, placeV l c = (i : Nat) ∧ i < l.length ∧ l[i]? = some c := by
  by_cases h : c ∈ l
  · obtain ⟨A, B, rfl, hA⟩ := split_at h
    exact .inr ⟨A.length, place_at hA, by simp, by simp⟩
  · exact .inl (place_none h)
theorem rline_calls (l : List UInt8) (hl : l.length < 4294967281) (w : World) : Calls Tryd.prog 36 #[.string (S l)] w fun e w' => e = .returned (.tuple #[.agg (lineR l).1.cells, .bool (lineR l).2]) ∧ Below w.heap.size w w' := by
  have P : ∀ (c : UInt8) (x : Int), (c.toNat : Int) = x → Hid (∀ w, Calls Tryd.prog 35 #[.string (S l), .int .u8 x] w fun e w' => e = .returned (.int .i64 (placeV l c)) ∧ Below w.heap.size w w') := fun c x hx => Lib.hid fun w => (place_calls l (by omega) c x hx w).mono fun e w' ⟨he, hw⟩ => ⟨he, by rw [← hw]; exact Below.refl _ _⟩
  have P1 := P 47 47 rfl
  have P2 := P 32 32 rfl
  rcases place_in (l := l) (c := 47) with h1 | ⟨i, h1, h2, h3⟩
  · have hR : lineR l = (zeroRt, false) := by unfold lineR; rw [if_pos (by rw [h1]; omega)]
    rw [h1] at P1
    rw [hR]
    exact rline_no (S l) _ _ (.inl (by omega)) P1 P2 w
  · rcases place_in (l := l) (c := 32) with k1 | ⟨k, k1, k2, k3⟩
    · have hR : lineR l = (zeroRt, false) := by unfold lineR; rw [if_pos (by rw [h1, k1]; omega)]
      rw [h1] at P1
      rw [k1] at P2
      rw [hR]
      exact rline_no (S l) _ _ (.inr ⟨by omega, by omega⟩) P1 P2 w
    · have hik : i ≠ k := fun e => by subst e; rw [h3] at k3; cases k3
      by_cases hlt : k < i
      · have hR : lineR l = (zeroRt, false) := by unfold lineR; rw [if_pos (by rw [h1, k1]; omega)]
        rw [h1] at P1
        rw [k1] at P2
        rw [hR]
        exact rline_no (S l) _ _ (.inr ⟨by omega, by omega⟩) P1 P2 w
      · have hR : lineR l = (⟨ansA (readV (l.take i)), numR ((l.take k).drop (i + 1)), numR (l.drop (k + 1))⟩, (ansE (readV (l.take i)) == 0) && decide (0 ≤ numR ((l.take k).drop (i + 1))) && decide (0 ≤ numR (l.drop (k + 1)))) := by
          unfold lineR
          rw [if_neg (by rw [h1, k1]; omega), h1, k1, Int.toNat_natCast, Int.toNat_natCast]
        rw [h1] at P1
        rw [k1] at P2
        rw [hR]
        have e1 : ((S l).extract 0 i).data.toList = l.take i := by rw [ext_take, S_list]
        have e2 : ((S l).extract (i + 1) k).data.toList = (l.take k).drop (i + 1) := by rw [extract_toList, S_list, List.drop_take]
        have e3 : ((S l).extract (k + 1) (S l).size).data.toList = l.drop (k + 1) := by rw [ext_drop, S_list]
        refine rline_of (S l) i k (by omega) (by rw [S_size]; omega) (by rw [S_size]; omega) (ansA (readV (l.take i))) (ansE (readV (l.take i))) _ _ _ (readV_ok _) (Lib.hid rfl) P1 P2 (Lib.hid fun w => ?_) (Lib.hid fun w => ?_) (Lib.hid fun w => ?_) w
        · have := rparse_calls ((S l).extract 0 i) (by have := congrArg List.length e1; simp at this; simp; omega) w
          rwa [e1] at this
        · have := rnum_calls ((S l).extract (i + 1) k) (by simp; omega) w
          rw [e2] at this
          exact this.mono fun e w' ⟨he, hw⟩ => ⟨he, by rw [← hw]; exact Below.refl _ _⟩
        · have := rnum_calls ((S l).extract (k + 1) (S l).size) (by rw [ByteArray.size_extract]; rw [S_size]; omega) w
          rw [e3] at this
          exact this.mono fun e w' ⟨he, hw⟩ => ⟨he, by rw [← hw]; exact Below.refl _ _⟩
end Go.Proofs.YtpaplobjmmpliaaDoor.Ad
