/- Contract of addr.Parse. Conditions: a text is shorter than 2^32 - 15; the library's own variable holds a number. -/
import Derived.Test.YtpaplobjmmpliaaDoorBe
import Derived.Lib.IndexLaws
namespace Go.Proofs.YtpaplobjmmpliaaDoor.Ad
set_option linter.unusedVariables false
set_option linter.unusedSimpArgs false
open Go.RowKit W
theorem contains_byte (l : List UInt8) (c : UInt8) : decide (0 ≤ Lib.indexByte l c) = l.contains c := by
  have hge : -1 ≤ Lib.indexByte l c := by
    induction l with
    | nil => exact Int.le_refl (-1)
    | cons x l ih => unfold Lib.indexByte; repeat' split
                     all_goals omega
  rcases Int.lt_or_le (Lib.indexByte l c) 0 with h | h
  · have h1 : Lib.indexByte l c = -1 := by omega
    have h2 := Lib.indexByte_none h1
    rw [decide_eq_false (by omega)]
    symm
    rw [List.contains_eq_mem, decide_eq_false]
    intro hm
    obtain ⟨k, hk, he⟩ := List.mem_iff_getElem.1 hm
    exact h2 k (by rw [List.getElem?_eq_getElem hk, he])
  · obtain ⟨o, ho⟩ := Int.eq_ofNat_of_zero_le h
    have h2 := (Lib.indexByte_some ho).1
    rw [decide_eq_true h]
    symm
    rw [List.contains_eq_mem, decide_eq_true]
    exact List.mem_of_getElem? h2
set_option maxRecDepth 100000 in
set_option maxHeartbeats 4000000 in
theorem parse_calls (s : ByteArray) (hs : s.size < 4294967281) (w : World) (hgl : Gl w) : Calls Tryd.prog 53 #[.string s] w fun e w' => e = .returned (.tuple #[.agg (ansA (readV s.data.toList)).cells, .int .i64 (ansE (readV s.data.toList))]) ∧ Below w.heap.size w w' := by
  have z0 := zero_ok
  obtain ⟨b, hb⟩ : ∃ b, s.data.toList.contains 58 = b := ⟨_, rfl⟩
  have HC := Lib.hid hb
  have GL := Lib.hid hgl
  cases b
  · have HR : Hid (readV s.data.toList = read4 s.data.toList) := Lib.hid (by unfold readV; rw [hb]; rfl)
    clear hb hgl
    go_enter Tryd.func53, Tryd.ntmps53
    go_upto_region 1 with fail
    refine wp_named fun W hW => ?_
    obtain ⟨bk, BW, sW⟩ := box1 (cs := zeroAd.cells) hW
    clear hW
    have GLW := Lib.hid (GL.out.later BW.out)
    go_upto_region 5 with (first | (go_at_call 67; refine (Tryd.strings_Contains_one s 58 _).mono ?_; rintro e w' ⟨rfl, rfl⟩; rw [contains_byte, HC.out]) | (go_at_call 66; refine (four_calls s hs _ GLW.out).mono ?_; rintro e W5 ⟨a5, ha5, rfl, hr5, hB5⟩) | (refine wpList_store_blk rfl 35 _ _ rfl W5.heap.size 35 zeroAd.cells a5.cells rfl rfl (Blk.new _ _ _) (by first | rfl | rw [csize ha5, csize zero_ok]) (szc ha5) (one_cells _) ?_; intro W6 P6))
    obtain ⟨B6, b6, s6, s5⟩ := call_store hB5 P6
    have bz6 := Lib.hid (bk.out.later B6.out (by rw [sW.out]; omega))
    have BW6 := keep BW B6.out
    have SZ : Hid (w.heap.size ≤ W6.heap.size) := Lib.hid BW6.out.size
    clear hB5 P6
    obtain ⟨r, hr⟩ : ∃ r, read4 s.data.toList = r := ⟨_, rfl⟩
    rw [hr] at hr5
    rw [hr]
    have HRR : Hid (readV s.data.toList = r) := Lib.hid (HR.out.trans hr)
    clear hr
    cases r with
    | none =>
      clear hr5
      go_wp2_with (refine wpList_store_blk rfl 35 _ _ rfl w.heap.size 35 zeroAd.cells zeroAd.cells rfl rfl bz6.out (by first | rfl | rw [csize zero_ok, csize zero_ok]) (szc zero_ok) (one_cells _) ?_; intro W9 P9)
      refine bodyPost_ret (v := .tuple #[.agg zeroAd.cells, .int .i64 30]) (by exact results_cell2 (fn := Tryd.f53) rfl _ _ w.heap.size 35 _ _ rfl P9.blk Tryd.underlying35 rfl (szc zero_ok)) rfl ⟨by rw [HRR.out]; rfl, P9.below BW6.out (Nat.le_refl _) SZ.out⟩
    | some b =>
      obtain rfl := hr5 b rfl
      clear hr5
      go_wp2_with (first | (refine wpList_load_blk rfl 35 _ rfl W5.heap.size 35 _ _ rfl b6.out Tryd.underlying35 rfl (by as_aux_lemma => exact szc ha5) ?_) | (refine wpList_store_blk rfl 35 _ _ rfl w.heap.size 35 zeroAd.cells a5.cells rfl rfl bz6.out (by first | rfl | rw [csize ha5, csize zero_ok]) (szc ha5) (one_cells _) ?_; intro W9 P9))
      refine bodyPost_ret (v := .tuple #[.agg a5.cells, .int .i64 0]) (by exact results_cell2 (fn := Tryd.f53) rfl _ _ w.heap.size 35 _ _ rfl P9.blk Tryd.underlying35 rfl (szc ha5)) rfl ⟨by rw [HRR.out]; rfl, P9.below BW6.out (Nat.le_refl _) SZ.out⟩
  · have HR : Hid (readV s.data.toList = read6 s.data.toList) := Lib.hid (by unfold readV; rw [hb]; rfl)
    clear hb hgl
    go_enter Tryd.func53, Tryd.ntmps53
    go_upto_region 1 with fail
    refine wp_named fun W hW => ?_
    obtain ⟨bk, BW, sW⟩ := box1 (cs := zeroAd.cells) hW
    clear hW
    have GLW := Lib.hid (GL.out.later BW.out)
    go_upto_region 5 with (first | (go_at_call 67; refine (Tryd.strings_Contains_one s 58 _).mono ?_; rintro e w' ⟨rfl, rfl⟩; rw [contains_byte, HC.out]) | (go_at_call 68; refine (six_calls s hs _ GLW.out).mono ?_; rintro e W5 ⟨a5, ha5, rfl, hr5, hB5⟩) | (refine wpList_store_blk rfl 35 _ _ rfl W5.heap.size 35 zeroAd.cells a5.cells rfl rfl (Blk.new _ _ _) (by first | rfl | rw [csize ha5, csize zero_ok]) (szc ha5) (one_cells _) ?_; intro W6 P6))
    obtain ⟨B6, b6, s6, s5⟩ := call_store hB5 P6
    have bz6 := Lib.hid (bk.out.later B6.out (by rw [sW.out]; omega))
    have BW6 := keep BW B6.out
    have SZ : Hid (w.heap.size ≤ W6.heap.size) := Lib.hid BW6.out.size
    clear hB5 P6
    obtain ⟨r, hr⟩ : ∃ r, read6 s.data.toList = r := ⟨_, rfl⟩
    rw [hr] at hr5
    rw [hr]
    have HRR : Hid (readV s.data.toList = r) := Lib.hid (HR.out.trans hr)
    clear hr
    cases r with
    | none =>
      clear hr5
      go_wp2_with (refine wpList_store_blk rfl 35 _ _ rfl w.heap.size 35 zeroAd.cells zeroAd.cells rfl rfl bz6.out (by first | rfl | rw [csize zero_ok, csize zero_ok]) (szc zero_ok) (one_cells _) ?_; intro W9 P9)
      refine bodyPost_ret (v := .tuple #[.agg zeroAd.cells, .int .i64 30]) (by exact results_cell2 (fn := Tryd.f53) rfl _ _ w.heap.size 35 _ _ rfl P9.blk Tryd.underlying35 rfl (szc zero_ok)) rfl ⟨by rw [HRR.out]; rfl, P9.below BW6.out (Nat.le_refl _) SZ.out⟩
    | some b =>
      obtain rfl := hr5 b rfl
      clear hr5
      go_wp2_with (first | (refine wpList_load_blk rfl 35 _ rfl W5.heap.size 35 _ _ rfl b6.out Tryd.underlying35 rfl (by as_aux_lemma => exact szc ha5) ?_) | (refine wpList_store_blk rfl 35 _ _ rfl w.heap.size 35 zeroAd.cells a5.cells rfl rfl bz6.out (by first | rfl | rw [csize ha5, csize zero_ok]) (szc ha5) (one_cells _) ?_; intro W9 P9))
      refine bodyPost_ret (v := .tuple #[.agg a5.cells, .int .i64 0]) (by exact results_cell2 (fn := Tryd.f53) rfl _ _ w.heap.size 35 _ _ rfl P9.blk Tryd.underlying35 rfl (szc ha5)) rfl ⟨by rw [HRR.out]; rfl, P9.below BW6.out (Nat.le_refl _) SZ.out⟩
end Go.Proofs.YtpaplobjmmpliaaDoor.Ad
