/- Contract of the law AddrOrder. Conditions: each address has sixteen bytes; the library tables hold what its text lays. -/
import Derived.Test.YtakdcndkpipfbaaDoorBt
import Derived.Test.YtakdcndkpipfbaaDoorBw
namespace Go.Proofs.YtakdcndkpipfbaaDoor.Ad
set_option linter.unusedVariables false
set_option linter.unusedSimpArgs false
open Go.RowKit W
theorem box3 {w W : World} {a b c : Addr} (h : W = ((w.alloc (.cells a.cells 24)).alloc (.cells b.cells 24)).alloc (.cells c.cells 24)) (hg : Gl w) : Ali w w.heap.size (w.heap.size + 1) (w.heap.size + 2) a b c W := by
  have hb : Below w.heap.size w W := by rw [h]; exact (((Below.refl _ _).alloc (Nat.le_refl _) _).alloc (by simp) _).alloc (by simp; omega) _
  refine ⟨hb, ?_, ?_, ?_, hg.later hb⟩
  · rw [h]; exact ((Blk.new _ _ _).alloc _).alloc _
  · rw [h]; have := (Blk.new (w.alloc (.cells a.cells 24)) 24 b.cells).alloc (.cells c.cells 24); simpa using this
  · rw [h]; have := Blk.new ((w.alloc (.cells a.cells 24)).alloc (.cells b.cells 24)) 24 c.cells; simpa using this
set_option maxRecDepth 100000 in
set_option maxHeartbeats 4000000 in
theorem order_of (a b c : Addr) (x y z u q : Bool) (ha : a.ok) (hb : b.ok) (hc : c.ok) (he : q = true → x = false ∧ y = false) (hn : q = false → x ≠ y) (ht : x = true → z = true → u = true) (hq : ∀ w, (binOp .eql 24 (.agg a.cells) (.agg b.cells)).run Tryd.prog w = .ok (.bool q) w) (HAA : Hid (∀ w, Calls Tryd.prog 18 #[.agg a.cells, .agg a.cells] w fun e w' => e = .returned (.bool false) ∧ Below w.heap.size w w')) (HAB : Hid (∀ w, Calls Tryd.prog 18 #[.agg a.cells, .agg b.cells] w fun e w' => e = .returned (.bool x) ∧ Below w.heap.size w w')) (HBA : Hid (∀ w, Calls Tryd.prog 18 #[.agg b.cells, .agg a.cells] w fun e w' => e = .returned (.bool y) ∧ Below w.heap.size w w')) (HBC : Hid (∀ w, Calls Tryd.prog 18 #[.agg b.cells, .agg c.cells] w fun e w' => e = .returned (.bool z) ∧ Below w.heap.size w w')) (HAC : Hid (∀ w, Calls Tryd.prog 18 #[.agg a.cells, .agg c.cells] w fun e w' => e = .returned (.bool u) ∧ Below w.heap.size w w')) (w : World) (hg : Gl w) : Calls Tryd.prog 6 #[.agg a.cells, .agg b.cells, .agg c.cells] w fun e w' => e = .returned (.bool true) ∧ Below w.heap.size w w' := by
  have HG := Lib.hid hg
  clear hg
  cases q
  · cases x
    · obtain rfl : y = true := by cases y; exact absurd rfl (hn rfl); rfl
      clear he hn ht
      go_enter Tryd.func6, Tryd.ntmps6
      go_upto_region 1 with fail
      refine wp_named fun W hW => ?_
      have HA : Hid (Ali w w.heap.size (w.heap.size + 1) (w.heap.size + 2) a b c W) := Lib.hid (box3 hW HG.out)
      clear hW
      go_wp2_with (first | (refine wpList_load_blk rfl 24 _ rfl w.heap.size 24 _ _ rfl HA.out.b1 Tryd.underlying24 rfl (by as_aux_lemma => exact szc ha) ?_) | (refine wpList_load_blk rfl 24 _ rfl (w.heap.size + 1) 24 _ _ rfl HA.out.b3 Tryd.underlying24 rfl (by as_aux_lemma => exact szc hb) ?_) | (refine wpList_load_blk rfl 24 _ rfl (w.heap.size + 2) 24 _ _ rfl HA.out.b7 Tryd.underlying24 rfl (by as_aux_lemma => exact szc hc) ?_) | (go_at_call 18; (first | (with_reducible refine (HAA.out _).mono ?_) | (with_reducible refine (HAB.out _).mono ?_) | (with_reducible refine (HBA.out _).mono ?_) | (with_reducible refine (HBC.out _).mono ?_) | (with_reducible refine (HAC.out _).mono ?_)); rintro e W9 ⟨rfl, hB9⟩; have HA := Lib.hid (HA.out.later hB9); clear hB9) | (go_at_call 9; (first | (with_reducible refine (alive_calls _ HA.out.gl).mono ?_)); rintro e W9 ⟨rfl, hB9⟩; have HA := Lib.hid (HA.out.later hB9); clear hB9))
      go_ret
      exact ⟨rfl, HA.out.below⟩
    · obtain rfl : y = false := by cases y; rfl; exact absurd rfl (hn rfl)
      cases z
      · clear he hn ht
        go_enter Tryd.func6, Tryd.ntmps6
        go_upto_region 1 with fail
        refine wp_named fun W hW => ?_
        have HA : Hid (Ali w w.heap.size (w.heap.size + 1) (w.heap.size + 2) a b c W) := Lib.hid (box3 hW HG.out)
        clear hW
        go_wp2_with (first | (refine wpList_load_blk rfl 24 _ rfl w.heap.size 24 _ _ rfl HA.out.b1 Tryd.underlying24 rfl (by as_aux_lemma => exact szc ha) ?_) | (refine wpList_load_blk rfl 24 _ rfl (w.heap.size + 1) 24 _ _ rfl HA.out.b3 Tryd.underlying24 rfl (by as_aux_lemma => exact szc hb) ?_) | (refine wpList_load_blk rfl 24 _ rfl (w.heap.size + 2) 24 _ _ rfl HA.out.b7 Tryd.underlying24 rfl (by as_aux_lemma => exact szc hc) ?_) | (go_at_call 18; (first | (with_reducible refine (HAA.out _).mono ?_) | (with_reducible refine (HAB.out _).mono ?_) | (with_reducible refine (HBA.out _).mono ?_) | (with_reducible refine (HBC.out _).mono ?_) | (with_reducible refine (HAC.out _).mono ?_)); rintro e W9 ⟨rfl, hB9⟩; have HA := Lib.hid (HA.out.later hB9); clear hB9) | (go_at_call 9; (first | (with_reducible refine (alive_calls _ HA.out.gl).mono ?_)); rintro e W9 ⟨rfl, hB9⟩; have HA := Lib.hid (HA.out.later hB9); clear hB9))
        go_ret
        exact ⟨rfl, HA.out.below⟩
      · obtain rfl : u = true := ht rfl rfl
        clear he hn ht
        go_enter Tryd.func6, Tryd.ntmps6
        go_upto_region 1 with fail
        refine wp_named fun W hW => ?_
        have HA : Hid (Ali w w.heap.size (w.heap.size + 1) (w.heap.size + 2) a b c W) := Lib.hid (box3 hW HG.out)
        clear hW
        go_wp2_with (first | (refine wpList_load_blk rfl 24 _ rfl w.heap.size 24 _ _ rfl HA.out.b1 Tryd.underlying24 rfl (by as_aux_lemma => exact szc ha) ?_) | (refine wpList_load_blk rfl 24 _ rfl (w.heap.size + 1) 24 _ _ rfl HA.out.b3 Tryd.underlying24 rfl (by as_aux_lemma => exact szc hb) ?_) | (refine wpList_load_blk rfl 24 _ rfl (w.heap.size + 2) 24 _ _ rfl HA.out.b7 Tryd.underlying24 rfl (by as_aux_lemma => exact szc hc) ?_) | (go_at_call 18; (first | (with_reducible refine (HAA.out _).mono ?_) | (with_reducible refine (HAB.out _).mono ?_) | (with_reducible refine (HBA.out _).mono ?_) | (with_reducible refine (HBC.out _).mono ?_) | (with_reducible refine (HAC.out _).mono ?_)); rintro e W9 ⟨rfl, hB9⟩; have HA := Lib.hid (HA.out.later hB9); clear hB9) | (go_at_call 9; (first | (with_reducible refine (alive_calls _ HA.out.gl).mono ?_)); rintro e W9 ⟨rfl, hB9⟩; have HA := Lib.hid (HA.out.later hB9); clear hB9))
        go_ret
        exact ⟨rfl, HA.out.below⟩
  · obtain ⟨rfl, rfl⟩ := he rfl
    clear he hn ht
    go_enter Tryd.func6, Tryd.ntmps6
    go_upto_region 1 with fail
    refine wp_named fun W hW => ?_
    have HA : Hid (Ali w w.heap.size (w.heap.size + 1) (w.heap.size + 2) a b c W) := Lib.hid (box3 hW HG.out)
    clear hW
    go_wp2_with (first | (refine wpList_load_blk rfl 24 _ rfl w.heap.size 24 _ _ rfl HA.out.b1 Tryd.underlying24 rfl (by as_aux_lemma => exact szc ha) ?_) | (refine wpList_load_blk rfl 24 _ rfl (w.heap.size + 1) 24 _ _ rfl HA.out.b3 Tryd.underlying24 rfl (by as_aux_lemma => exact szc hb) ?_) | (refine wpList_load_blk rfl 24 _ rfl (w.heap.size + 2) 24 _ _ rfl HA.out.b7 Tryd.underlying24 rfl (by as_aux_lemma => exact szc hc) ?_) | (go_at_call 18; (first | (with_reducible refine (HAA.out _).mono ?_) | (with_reducible refine (HAB.out _).mono ?_) | (with_reducible refine (HBA.out _).mono ?_) | (with_reducible refine (HBC.out _).mono ?_) | (with_reducible refine (HAC.out _).mono ?_)); rintro e W9 ⟨rfl, hB9⟩; have HA := Lib.hid (HA.out.later hB9); clear hB9) | (go_at_call 9; (first | (with_reducible refine (alive_calls _ HA.out.gl).mono ?_)); rintro e W9 ⟨rfl, hB9⟩; have HA := Lib.hid (HA.out.later hB9); clear hB9))
    go_ret
    exact ⟨rfl, HA.out.below⟩
theorem order_calls (a b c : Addr) (ha : a.ok) (hb : b.ok) (hc : c.ok) (w : World) (hg : Gl w) : Calls Tryd.prog 6 #[.agg a.cells, .agg b.cells, .agg c.cells] w fun e w' => e = .returned (.bool true) ∧ Below w.heap.size w w' :=
  order_of a b c (a.less b) (b.less a) (b.less c) (a.less c) (decide (a = b)) ha hb hc (fun h => by have := of_decide_eq_true h; subst this; exact ⟨less_self a, less_self a⟩) (fun h => less_one ha hb (of_decide_eq_false h)) (less_on ha hb hc) (eql_ad a b ha hb)
    (Lib.hid fun w => by have := less_calls a a ha ha w; rwa [less_self] at this) (Lib.hid (less_calls a b ha hb)) (Lib.hid (less_calls b a hb ha)) (Lib.hid (less_calls b c hb hc)) (Lib.hid (less_calls a c ha hc)) w hg
end Go.Proofs.YtakdcndkpipfbaaDoor.Ad
