/- Contract of the law AddrParses. Conditions: a text is shorter than 2^32 - 15; the library tables hold what its text lays. -/
import Derived.Test.YtakdcndkpipfbaaDoorBt
namespace Go.Proofs.YtakdcndkpipfbaaDoor.Ad
set_option linter.unusedVariables false
set_option linter.unusedSimpArgs false
open Go.RowKit W
set_option maxRecDepth 100000 in
set_option maxHeartbeats 4000000 in
theorem parses_of (s : ByteArray) (m : Addr) (er : Int) (hm : m.ok) (HP : Hid (∀ w, Gl w → Calls Tryd.prog 22 #[.string s] w fun e w' => e = .returned (.tuple #[.agg m.cells, .int .i64 er]) ∧ Below w.heap.size w w')) (HR : Hid (∀ w, Calls Tryd.prog 23 #[.string s] w fun e w' => e = .returned (.tuple #[.agg m.cells, .int .i64 er]) ∧ Below w.heap.size w w')) (w : World) (hg : Gl w) : Calls Tryd.prog 4 #[.string s] w fun e w' => e = .returned (.bool true) ∧ Below w.heap.size w w' := by
  have HG := Lib.hid hg
  have z0 := zero_ok
  have q1 : ∀ w, (binOp .eql 24 (.agg m.cells) (.agg m.cells)).run Tryd.prog w = .ok (.bool true) w := fun w => by have := eql_ad m m hm hm w; simpa using this
  have q4 : (er == er) = true := beq_self_eq_true er
  clear hg
  go_enter Tryd.func4, Tryd.ntmps4
  go_upto_region 4 with (go_at_call 9; refine (alive_calls _ HG.out).mono ?_; rintro e W2 ⟨rfl, hB2⟩)
  have BW2 := Lib.hid hB2
  have GL2 := Lib.hid (HG.out.later hB2)
  clear hB2
  go_upto_region 5 with (first | (go_at_call 22; refine (HP.out _ GL2.out).mono ?_; rintro e W3 ⟨rfl, hB5⟩) | (refine wpList_store_blk rfl 24 _ _ rfl W3.heap.size 24 zeroAd.cells m.cells rfl rfl (Blk.new _ _ _) (by first | rfl | rw [csize hm, csize zero_ok]) (szc hm) (one_cells _) ?_; intro W4 P4))
  obtain ⟨B5, b5, s5, t5⟩ := call_store hB5 P4
  clear hB5 P4
  go_upto_region 6 with (first | (go_at_call 23; refine (HR.out _).mono ?_; rintro e W5 ⟨rfl, hB6⟩) | (refine wpList_store_blk rfl 24 _ _ rfl W5.heap.size 24 zeroAd.cells m.cells rfl rfl (Blk.new _ _ _) (by first | rfl | rw [csize hm, csize zero_ok]) (szc hm) (one_cells _) ?_; intro W6 P6))
  obtain ⟨B6, b6, s6, t6⟩ := call_store hB6 P6
  clear hB6 P6
  have c1 := Lib.hid (b5.out.later B6.out b5.out.lt)
  have c2 := b6
  have BW6 := keep (keep BW2 B5.out) B6.out
  obtain ⟨G1, hG1⟩ : ∃ g, W3.heap.size = g := ⟨_, rfl⟩
  obtain ⟨G2, hG2⟩ : ∃ g, W5.heap.size = g := ⟨_, rfl⟩
  rw [hG1] at c1 ⊢
  rw [hG2] at c2 ⊢
  clear b5 b6 s5 t5 s6 t6 hG1 hG2 B5 B6 GL2 BW2
  go_wp2_with (first | (refine wpList_load_blk rfl 24 _ rfl G1 24 _ _ rfl c1.out Tryd.underlying24 rfl (by as_aux_lemma => exact szc hm) ?_) | (refine wpList_load_blk rfl 24 _ rfl G2 24 _ _ rfl c2.out Tryd.underlying24 rfl (by as_aux_lemma => exact szc hm) ?_))
  go_ret
  exact ⟨rfl, BW6.out⟩
theorem parses_calls (s : ByteArray) (hs : s.size < 4294967281) (w : World) (hg : Gl w) : Calls Tryd.prog 4 #[.string s] w fun e w' => e = .returned (.bool true) ∧ Below w.heap.size w w' :=
  parses_of s (ansA (readV s.data.toList)) (ansE (readV s.data.toList)) (readV_ok _) (Lib.hid (fun w hg => parse_calls s hs w hg)) (Lib.hid (rparse_calls s (by omega))) w hg
end Go.Proofs.YtakdcndkpipfbaaDoor.Ad
