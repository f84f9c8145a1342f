/- Contract of the law AddrAsks. Conditions: each address has sixteen bytes; the library tables hold what its text lays. -/
import Derived.Test.YtakdcndkpipfbaaDoorBt
namespace Go.Proofs.YtakdcndkpipfbaaDoor.Ad
set_option linter.unusedVariables false
set_option linter.unusedSimpArgs false
open Go.RowKit W
set_option maxRecDepth 100000 in
set_option maxHeartbeats 4000000 in
theorem asks_of (a b m : Addr) (n er k : Int) (v l l2 i : Bool) (s : ByteArray) (ha : a.ok) (hb : b.ok) (hm : m.ok) (HM : Hid (∀ w, Calls Tryd.prog 10 #[.agg a.cells, .int .i64 n] w fun e w' => e = .returned (.tuple #[.agg m.cells, .int .i64 er]) ∧ Below w.heap.size w w')) (HRM : Hid (∀ w, Calls Tryd.prog 11 #[.agg a.cells, .int .i64 n] w fun e w' => e = .returned (.tuple #[.agg m.cells, .int .i64 er]) ∧ Below w.heap.size w w')) (HV : Hid (∀ w, Calls Tryd.prog 12 #[.agg a.cells] w fun e w' => e = .returned (.bool v) ∧ Below w.heap.size w w')) (HRV : Hid (∀ w, Calls Tryd.prog 13 #[.agg a.cells] w fun e w' => e = .returned (.bool v) ∧ Below w.heap.size w w')) (HK : Hid (∀ w, Calls Tryd.prog 14 #[.agg a.cells] w fun e w' => e = .returned (.int .i64 k) ∧ Below w.heap.size w w')) (HRK : Hid (∀ w, Calls Tryd.prog 15 #[.agg a.cells] w fun e w' => e = .returned (.int .i64 k) ∧ Below w.heap.size w w')) (HP : Hid (∀ w, Gl w → Calls Tryd.prog 16 #[.agg a.cells] w fun e w' => e = .returned (.string s) ∧ Below w.heap.size w w')) (HRP : Hid (∀ w, Calls Tryd.prog 17 #[.agg a.cells] w fun e w' => e = .returned (.string s) ∧ Below w.heap.size w w')) (HL : Hid (∀ w, Calls Tryd.prog 18 #[.agg a.cells, .agg b.cells] w fun e w' => e = .returned (.bool l) ∧ Below w.heap.size w w')) (HRL : Hid (∀ w, Calls Tryd.prog 19 #[.agg a.cells, .agg b.cells] w fun e w' => e = .returned (.bool l) ∧ Below w.heap.size w w')) (HL2 : Hid (∀ w, Calls Tryd.prog 18 #[.agg b.cells, .agg a.cells] w fun e w' => e = .returned (.bool l2) ∧ Below w.heap.size w w')) (HRL2 : Hid (∀ w, Calls Tryd.prog 19 #[.agg b.cells, .agg a.cells] w fun e w' => e = .returned (.bool l2) ∧ Below w.heap.size w w')) (HW : Hid (∀ w, Calls Tryd.prog 20 #[.agg a.cells, .agg b.cells, .int .i64 n] w fun e w' => e = .returned (.bool i) ∧ Below w.heap.size w w')) (HRW : Hid (∀ w, Calls Tryd.prog 21 #[.agg a.cells, .agg b.cells, .int .i64 n] w fun e w' => e = .returned (.bool i) ∧ Below w.heap.size w w')) (w : World) (hg : Gl w) : Calls Tryd.prog 3 #[.agg a.cells, .agg b.cells, .int .i64 n] w fun e w' => e = .returned (.bool true) ∧ Below w.heap.size w w' := by
  have HG := Lib.hid hg
  have z0 := zero_ok
  have q1 : ∀ w, (binOp .neq 24 (.agg m.cells) (.agg m.cells)).run Tryd.prog w = .ok (.bool false) w := fun w => by have := neq_ad m m hm hm w; simpa using this
  have q2 : (v != v) = false := by cases v <;> rfl
  have q3 : (k != k) = false := bne_self_eq_false k
  have q4 : (er != er) = false := bne_self_eq_false er
  have q5 : (s.toList != s.toList) = false := bne_self_eq_false _
  have q5' : (s != s) = false := by show (!(s.data == s.data)) = false; rw [beq_self_eq_true]; rfl
  have q6 : (l == l) = true := beq_self_eq_true l
  have q7 : (l2 == l2) = true := beq_self_eq_true l2
  have q8 : (i == i) = true := beq_self_eq_true i
  clear hg
  go_enter Tryd.func3, Tryd.ntmps3
  go_upto_region 1 with fail
  refine wp_named fun W hW => ?_
  obtain ⟨bk, bk2, BW, sW⟩ := box2 hW
  clear hW
  have GLW := Lib.hid (HG.out.later BW.out)
  go_upto_region 4 with (go_at_call 9; refine (alive_calls _ GLW.out).mono ?_; rintro e W2 ⟨rfl, hB2⟩)
  have BW2 := keep BW hB2
  have K1 := Lib.hid (bk.out.later hB2 bk.out.lt)
  have K2 := Lib.hid (bk2.out.later hB2 bk2.out.lt)
  have GL2 := Lib.hid (GLW.out.later hB2)
  clear hB2
  go_upto_region 5 with (first | (refine wpList_load_blk rfl 24 _ rfl w.heap.size 24 _ _ rfl K1.out Tryd.underlying24 rfl (by as_aux_lemma => exact szc ha) ?_) | (go_at_call 10; refine (HM.out _).mono ?_; rintro e W3 ⟨rfl, hB5⟩) | (refine wpList_store_blk rfl 24 _ _ rfl W3.heap.size 24 zeroAd.cells m.cells rfl rfl (Blk.new _ _ _) (by first | rfl | rw [csize hm, csize zero_ok]) (szc hm) (one_cells _) ?_; intro W4 P4))
  obtain ⟨B5, b5, s5, t5⟩ := call_store hB5 P4
  clear hB5 P4
  have K1 := Lib.hid (K1.out.later B5.out K1.out.lt)
  have K2 := Lib.hid (K2.out.later B5.out K2.out.lt)
  go_upto_region 6 with (first | (refine wpList_load_blk rfl 24 _ rfl w.heap.size 24 _ _ rfl K1.out Tryd.underlying24 rfl (by as_aux_lemma => exact szc ha) ?_) | (go_at_call 11; refine (HRM.out _).mono ?_; rintro e W5 ⟨rfl, hB6⟩) | (refine wpList_store_blk rfl 24 _ _ rfl W5.heap.size 24 zeroAd.cells m.cells rfl rfl (Blk.new _ _ _) (by first | rfl | rw [csize hm, csize zero_ok]) (szc hm) (one_cells _) ?_; intro W6 P6))
  obtain ⟨B6, b6, s6, t6⟩ := call_store hB6 P6
  clear hB6 P6
  have K1 := Lib.hid (K1.out.later B6.out K1.out.lt)
  have K2 := Lib.hid (K2.out.later B6.out K2.out.lt)
  have c1 := Lib.hid (b5.out.later B6.out b5.out.lt)
  have c2 := b6
  have BW6 := keep (keep BW2 B5.out) B6.out
  have HGL := Lib.hid (HG.out.later BW6.out)
  obtain ⟨G1, hG1⟩ : ∃ g, W3.heap.size = g := ⟨_, rfl⟩
  obtain ⟨G2, hG2⟩ : ∃ g, W5.heap.size = g := ⟨_, rfl⟩
  rw [hG1] at c1 ⊢
  rw [hG2] at c2 ⊢
  clear b5 b6 s5 t5 s6 t6 hG1 hG2 B5 B6 GL2 bk bk2 BW2 GLW
  refine region_later (by kernel_rfl) (by kernel_rfl) ?_
  repeat (first | go_big_quiet_skip | (go_big_quiet_want; first | (refine quiet_load 24 _ rfl w.heap.size 24 _ _ rfl K1.out Tryd.underlying24 rfl (szc ha) ?_; simp only [Act.put, List.setIfInBounds_toArray, List.set_cons_zero, List.set_cons_succ]; go_big_quiet_on) | (refine quiet_load 24 _ rfl (w.heap.size + 1) 24 _ _ rfl K2.out Tryd.underlying24 rfl (szc hb) ?_; simp only [Act.put, List.setIfInBounds_toArray, List.set_cons_zero, List.set_cons_succ]; go_big_quiet_on) | (refine quiet_load 24 _ rfl G1 24 _ _ rfl c1.out Tryd.underlying24 rfl (szc hm) ?_; simp only [Act.put, List.setIfInBounds_toArray, List.set_cons_zero, List.set_cons_succ]; go_big_quiet_on) | (refine quiet_load 24 _ rfl G2 24 _ _ rfl c2.out Tryd.underlying24 rfl (szc hm) ?_; simp only [Act.put, List.setIfInBounds_toArray, List.set_cons_zero, List.set_cons_succ]; go_big_quiet_on) | (go_big_quiet_op; first | go_big_quiet_on | go_big_quiet_call (first | (go_at_call 12; exact calls_later (HV.out _)) | (go_at_call 13; exact calls_later (HRV.out _)) | (go_at_call 14; exact calls_later (HK.out _)) | (go_at_call 15; exact calls_later (HRK.out _)) | (go_at_call 16; exact calls_later (HP.out _ (HGL.out.later ‹Later W6›.property))) | (go_at_call 17; exact calls_later (HRP.out _))))))
  refine wpQuiet_nil ?_
  intro z hz
  have K1 := Lib.hid (K1.out.later hz K1.out.lt)
  have K2 := Lib.hid (K2.out.later hz K2.out.lt)
  have c1 := Lib.hid (c1.out.later hz c1.out.lt)
  have c2 := Lib.hid (c2.out.later hz c2.out.lt)
  have BW6 := keep BW6 hz
  clear hz
  go_wp2
  refine region_later (by kernel_rfl) (by kernel_rfl) ?_
  repeat (first | go_big_quiet_skip | (go_big_quiet_want; first | (refine quiet_load 24 _ rfl w.heap.size 24 _ _ rfl K1.out Tryd.underlying24 rfl (szc ha) ?_; simp only [Act.put, List.setIfInBounds_toArray, List.set_cons_zero, List.set_cons_succ]; go_big_quiet_on) | (refine quiet_load 24 _ rfl (w.heap.size + 1) 24 _ _ rfl K2.out Tryd.underlying24 rfl (szc hb) ?_; simp only [Act.put, List.setIfInBounds_toArray, List.set_cons_zero, List.set_cons_succ]; go_big_quiet_on) | (refine quiet_load 24 _ rfl G1 24 _ _ rfl c1.out Tryd.underlying24 rfl (szc hm) ?_; simp only [Act.put, List.setIfInBounds_toArray, List.set_cons_zero, List.set_cons_succ]; go_big_quiet_on) | (refine quiet_load 24 _ rfl G2 24 _ _ rfl c2.out Tryd.underlying24 rfl (szc hm) ?_; simp only [Act.put, List.setIfInBounds_toArray, List.set_cons_zero, List.set_cons_succ]; go_big_quiet_on) | (go_big_quiet_op; first | go_big_quiet_on | go_big_quiet_call (first | (go_at_call 18; first | (with_reducible exact calls_later (HL.out _)) | (with_reducible exact calls_later (HL2.out _))) | (go_at_call 19; first | (with_reducible exact calls_later (HRL.out _)) | (with_reducible exact calls_later (HRL2.out _))) | (go_at_call 20; exact calls_later (HW.out _)) | (go_at_call 21; exact calls_later (HRW.out _))))))
  refine wpQuiet_nil ?_
  intro z2 hz2
  have BW7 := keep BW6 hz2
  clear hz2
  go_wp2
  go_ret
  exact ⟨rfl, BW7.out⟩
theorem asks_calls (a b : Addr) (ha : a.ok) (hb : b.ok) (n : Int) (w : World) (hg : Gl w) : Calls Tryd.prog 3 #[.agg a.cells, .agg b.cells, .int .i64 n] w fun e w' => e = .returned (.bool true) ∧ Below w.heap.size w w' :=
  asks_of a b (a.mask n) n (a.maskE n) a.kind a.valid (a.less b) (b.less a) (a.within b n) (S (printV a)) ha hb (mask_ok ha n)
    (Lib.hid (mask_calls a ha n)) (Lib.hid (rmask_calls a ha n)) (Lib.hid (valid_calls a ha)) (Lib.hid (rvalid_calls a ha)) (Lib.hid (kind_calls a ha)) (Lib.hid (rkind_calls a ha)) (Lib.hid (print_calls a ha)) (Lib.hid (rprint_calls a ha))
    (Lib.hid (less_calls a b ha hb)) (Lib.hid (rless_calls a b ha hb)) (Lib.hid (less_calls b a hb ha)) (Lib.hid (rless_calls b a hb ha)) (Lib.hid (within_calls a b ha hb n)) (Lib.hid (rwithin_calls a b ha hb n)) w hg
end Go.Proofs.YtakdcndkpipfbaaDoor.Ad
