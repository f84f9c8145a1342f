/- Contract of the law's own four. Conditions: none. -/
import Derived.Test.YtakdcndkpipfbaaDoorBp
namespace Go.Proofs.YtakdcndkpipfbaaDoor.Ad
set_option linter.unusedVariables false
set_option linter.unusedSimpArgs false
open Go.RowKit W
set_option maxRecDepth 100000 in
set_option maxHeartbeats 4000000 in
theorem fourL_calls (a b c d : UInt8) {x y z u : Int} (hx : x = (a.toNat : Int)) (hy : y = (b.toNat : Int)) (hz : z = (c.toNat : Int)) (hu : u = (d.toNat : Int)) (w : World) : Calls Tryd.prog 25 #[.int .u8 x, .int .u8 y, .int .u8 z, .int .u8 u] w fun e w' => e = .returned (.agg (ad4 a b c d).cells) ∧ Below w.heap.size w w' := by
  have hc : (ad4 a b c d).cells = #[.int .i64 4, .int .u8 x, .int .u8 y, .int .u8 z, .int .u8 u, .int .u8 0, .int .u8 0, .int .u8 0, .int .u8 0, .int .u8 0, .int .u8 0, .int .u8 0, .int .u8 0, .int .u8 0, .int .u8 0, .int .u8 0, .int .u8 0] := by subst hx; subst hy; subst hz; subst hu; rfl
  have z0 := zero_ok
  have z4 := ad4_ok a b c d
  have HC := Lib.hid hc
  clear hx hy hz hu hc
  go_enter Tryd.func25, Tryd.ntmps25
  go_upto_region 1 with fail
  refine wp_named fun W hW => ?_
  obtain ⟨bk, BW, sW⟩ := box1 (cs := zeroAd.cells) hW
  clear hW
  go_wp2_with ((refine wpList_store_blk rfl 24 _ _ rfl w.heap.size 24 zeroAd.cells #[.int .i64 4, .int .u8 x, .int .u8 y, .int .u8 z, .int .u8 u, .int .u8 0, .int .u8 0, .int .u8 0, .int .u8 0, .int .u8 0, .int .u8 0, .int .u8 0, .int .u8 0, .int .u8 0, .int .u8 0, .int .u8 0, .int .u8 0] rfl rfl bk.out rfl sz24 (by rw [← HC.out]; exact one_cells _) ?_; intro W2 P2; have P3 : Put W W2 w.heap.size 24 (ad4 a b c d).cells := by rw [HC.out]; exact P2))
  refine bodyPost_ret (v := .agg (ad4 a b c d).cells) (by exact results_cell_row (fn := Tryd.f25) rfl _ _ w.heap.size 24 _ (0, 0) _ rfl P3.blk Tryd.underlying24 rfl (szc z4)) rfl ⟨rfl, P3.below BW.out (Nat.le_refl _) BW.out.size⟩
end Go.Proofs.YtakdcndkpipfbaaDoor.Ad
