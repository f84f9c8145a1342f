/- Contract of the reference's Parse. Conditions: a text is shorter than 2^32. -/
import Derived.Test.YtpaplobjmmpliaaDoorAz
namespace Go.Proofs.YtpaplobjmmpliaaDoor.Ad
set_option linter.unusedVariables false
set_option linter.unusedSimpArgs false
open Go.RowKit W
theorem ans_ok (r : Option Addr) (h : ∀ a, r = some a → a.ok) : (ansA r).ok := by
  cases r with
  | none => exact zero_ok
  | some a => exact h a rfl
theorem read4_ok (l : List UInt8) : (ansA (read4 l)).ok := ans_ok _ fun a h => by
  unfold read4 at h
  split at h
  · split at h
    · injection h with h; subst h; exact part_ok _ _ _
    · cases h
  · cases h
theorem read6_ok (l : List UInt8) : (ansA (read6 l)).ok := ans_ok _ fun a h => by
  unfold read6 at h
  split at h
  · split at h
    · split at h
      · injection h with h; subst h; exact part_ok _ _ _
      · cases h
    · split at h
      · injection h with h; subst h; exact part_ok _ _ _
      · cases h
  · cases h
theorem readV_ok (l : List UInt8) : (ansA (readV l)).ok := by
  unfold readV; split
  · exact read6_ok l
  · exact read4_ok l
set_option maxRecDepth 100000 in
set_option maxHeartbeats 4000000 in
theorem rparse_calls (s : ByteArray) (hs : s.size ≤ 4294967296) (w : World) : Calls Tryd.prog 55 #[.string s] w fun e w' => e = .returned (.tuple #[.agg (ansA (readV s.data.toList)).cells, .int .i64 (ansE (readV s.data.toList))]) ∧ Below w.heap.size w w' := by
  obtain ⟨b, hb⟩ : ∃ b, s.data.toList.contains 58 = b := ⟨_, rfl⟩
  have HC := Lib.hid hb
  cases b
  · have HR : Hid (readV s.data.toList = read4 s.data.toList) := Lib.hid (by unfold readV; rw [hb]; rfl)
    have hok := read4_ok s.data.toList
    clear hb
    go_enter Tryd.func55, Tryd.ntmps55
    go_upto_region 1 with fail
    refine wp_named fun W hW => ?_
    obtain ⟨bk, BW, sW⟩ := box1 (cs := zeroAd.cells) hW
    clear hW
    go_upto_region 4 with (go_at_call 69; refine (has_calls s 58 (by omega) _).mono ?_; rintro e w' ⟨rfl, rfl⟩; rw [HC.out])
    go_wp2_with (first | (go_at_call 71; refine (parse4_calls s hs _).mono ?_; rintro e W5 ⟨rfl, hB5⟩; have BZ5 := Lib.hid (bk.out.later hB5 (by rw [sW.out]; omega))) | (refine wpList_store_blk rfl 35 _ _ rfl w.heap.size 35 zeroAd.cells (ansA (read4 s.data.toList)).cells rfl rfl BZ5.out (by first | rfl | rw [csize hok, csize zero_ok]) (szc hok) (one_cells _) ?_; intro W10 P9))
    refine bodyPost_ret (v := .tuple #[.agg (ansA (read4 s.data.toList)).cells, .int .i64 (ansE (read4 s.data.toList))]) (by exact results_cell2 (fn := Tryd.f55) rfl _ _ w.heap.size 35 _ _ rfl P9.blk Tryd.underlying35 rfl (szc hok)) rfl ⟨by rw [HR.out], ?_⟩
    exact P9.below (BW.out.trans (hB5.mono (by rw [sW.out]; omega))) (Nat.le_refl _) (by have := hB5.size; rw [sW.out] at this; omega)
  · have HR : Hid (readV s.data.toList = read6 s.data.toList) := Lib.hid (by unfold readV; rw [hb]; rfl)
    have hok := read6_ok s.data.toList
    clear hb
    go_enter Tryd.func55, Tryd.ntmps55
    go_upto_region 1 with fail
    refine wp_named fun W hW => ?_
    obtain ⟨bk, BW, sW⟩ := box1 (cs := zeroAd.cells) hW
    clear hW
    go_upto_region 3 with (go_at_call 69; refine (has_calls s 58 (by omega) _).mono ?_; rintro e w' ⟨rfl, rfl⟩; rw [HC.out])
    go_wp2_with (first | (go_at_call 70; refine (parse6_calls s hs _).mono ?_; rintro e W5 ⟨rfl, hB5⟩; have BZ5 := Lib.hid (bk.out.later hB5 (by rw [sW.out]; omega))) | (refine wpList_store_blk rfl 35 _ _ rfl w.heap.size 35 zeroAd.cells (ansA (read6 s.data.toList)).cells rfl rfl BZ5.out (by first | rfl | rw [csize hok, csize zero_ok]) (szc hok) (one_cells _) ?_; intro W10 P9))
    refine bodyPost_ret (v := .tuple #[.agg (ansA (read6 s.data.toList)).cells, .int .i64 (ansE (read6 s.data.toList))]) (by exact results_cell2 (fn := Tryd.f55) rfl _ _ w.heap.size 35 _ _ rfl P9.blk Tryd.underlying35 rfl (szc hok)) rfl ⟨by rw [HR.out], ?_⟩
    exact P9.below (BW.out.trans (hB5.mono (by rw [sW.out]; omega))) (Nat.le_refl _) (by have := hB5.size; rw [sW.out] at this; omega)
end Go.Proofs.YtpaplobjmmpliaaDoor.Ad
