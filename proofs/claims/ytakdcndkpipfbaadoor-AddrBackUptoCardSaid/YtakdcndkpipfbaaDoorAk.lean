/- Contracts of addr.Kind and of the reference's Kind. Conditions: an address has sixteen bytes. -/
import Derived.Test.YtakdcndkpipfbaaDoorAl
namespace Go.Proofs.YtakdcndkpipfbaaDoor.Ad
set_option linter.unusedVariables false
set_option linter.unusedSimpArgs false
open Go.RowKit W
def zeros : List UInt8 := [0, 0, 0, 0, 0, 0, 0, 0, 0, 0, 0, 0, 0, 0, 0, 0]
def one6 : List UInt8 := [0, 0, 0, 0, 0, 0, 0, 0, 0, 0, 0, 0, 0, 0, 0, 1]
def bcast : List UInt8 := [255, 255, 255, 255, 0, 0, 0, 0, 0, 0, 0, 0, 0, 0, 0, 0]
def Addr.first (a : Addr) : Int := (a.b.getD 0 0).toNat
def Addr.kind (a : Addr) : Int :=
  if a.valid = false then 0 else if a.b = zeros then 1
  else if a.v = 6 then (if a.b = one6 then 2 else if a.first = 255 then 3 else 5)
  else if a.first = 127 then 2 else if 224 ≤ a.first then (if a.first ≤ 239 then 3 else if a.b = bcast then 4 else 5) else if a.b = bcast then 4 else 5
theorem range_b {w : World} {g : Nat} {a : Addr} (h : Blk w g 24 a.cells) : w.rangeAt g 1 (a.b.map by8) := fun j v hj => by
  rw [h.cell]
  simp only [Addr.cells, List.getElem?_toArray]
  rw [Nat.add_comm, List.getElem?_cons_succ, hj]
theorem szb {l : List UInt8} (h : l.length = 16) : (Tryd.prog.info? 22).map (·.size) = some (l.map by8).length := by rw [List.length_map, h]; kernel_rfl
/-- The sixteen bytes of an address in its block, read as one value. -/
theorem wpList_load_b {ops : Array Oper} {rest : List Oper} {o : Oper} {a : Act} {w : World} {Q : Exit → Act → World → Prop} (hgd : o.guard = none) (x : Operand) (ho : o.op = .load 22 x)
    (g : Nat) (c : Addr) (hx : a.eval x = .pointer (some ⟨g, 1, none⟩)) (hb : Blk w g 24 c.cells) (hc : c.ok) (h : wpList Tryd.prog ops Q rest (a.put o.dst (.agg (bcells c.b))) w) : wpList Tryd.prog ops Q (o :: rest) a w :=
  wpList_load_mid hgd 22 x ho g 1 hx (c.b.map by8) _ (range_b hb) Tryd.underlying22 rfl (szb hc) h
theorem eqb_no {l m : List UInt8} (hl : l.length = 16) (hm : m.length = 16) (h : ¬ l = m) (w : World) : (binOp .eql 22 (.agg (bcells l)) (.agg (bcells m))).run Tryd.prog w = .ok (.bool false) w := by
  rw [eql_bytes l m hl hm, beq_eq_false_iff_ne.2 h]
theorem eqb_yes {l m : List UInt8} (hl : l.length = 16) (hm : m.length = 16) (h : l = m) (w : World) : (binOp .eql 22 (.agg (bcells l)) (.agg (bcells m))).run Tryd.prog w = .ok (.bool true) w := by
  rw [eql_bytes l m hl hm, beq_iff_eq.2 h]
set_option maxRecDepth 100000 in
set_option maxHeartbeats 1000000 in
theorem kind_calls (a : Addr) (ha : a.ok) (w : World) : Calls Tryd.prog 14 #[.agg a.cells] w fun e w' => e = .returned (.int .i64 a.kind) ∧ Below w.heap.size w w' := by
  by_cases hval : a.valid = true
  · have HV := Lib.hid hval
    by_cases hq0 : a.b = zeros
    · have q0 : ∀ w, (binOp .eql 22 (.agg (bcells a.b)) (.agg #[Value.int .u8 0, Value.int .u8 0, Value.int .u8 0, Value.int .u8 0, Value.int .u8 0, Value.int .u8 0, Value.int .u8 0, Value.int .u8 0, Value.int .u8 0, Value.int .u8 0, Value.int .u8 0, Value.int .u8 0, Value.int .u8 0, Value.int .u8 0, Value.int .u8 0, Value.int .u8 0])).run Tryd.prog w = .ok (.bool true) w := fun w => eqb_yes (m := zeros) ha rfl hq0 w
      have HR : Hid (a.kind = 1) := Lib.hid (by unfold Addr.kind; rw [if_neg (by rw [hval]; decide), if_pos hq0])
      clear hval hq0
      go_enter Tryd.func14, Tryd.ntmps14
      go_upto_region 1 with fail
      refine wp_named fun W hW => ?_
      obtain ⟨bk, BW, sW⟩ := box1 hW
      clear hW
      go_wp2_with (first | (refine wpList_load_blk rfl 24 _ rfl w.heap.size 24 _ _ rfl bk.out Tryd.underlying24 rfl (by as_aux_lemma => exact szc ‹_›) ?_) | (go_at_call 12; refine (valid_calls a ha _).mono ?_; rintro e W1 ⟨rfl, hB⟩; rw [HV.out]; have bk1 := Lib.hid (bk.out.later hB (by rw [sW.out]; omega)); have b0 := cell_v bk1.out; have b1 : W1.cell? ⟨w.heap.size, 1, none⟩ = some (.int .u8 a.first) := cell_b bk1.out ha 0 (by omega)) | (refine wpList_load_b rfl _ rfl w.heap.size a rfl bk1.out ha ?_))
      go_ret
      exact ⟨by rw [HR.out]; rfl, (keep BW hB).out⟩
    · have q0 : ∀ w, (binOp .eql 22 (.agg (bcells a.b)) (.agg #[Value.int .u8 0, Value.int .u8 0, Value.int .u8 0, Value.int .u8 0, Value.int .u8 0, Value.int .u8 0, Value.int .u8 0, Value.int .u8 0, Value.int .u8 0, Value.int .u8 0, Value.int .u8 0, Value.int .u8 0, Value.int .u8 0, Value.int .u8 0, Value.int .u8 0, Value.int .u8 0])).run Tryd.prog w = .ok (.bool false) w := fun w => eqb_no (m := zeros) ha rfl hq0 w
      by_cases h6 : a.v = 6
      · have e6 : (a.v == 6) = true := beq_iff_eq.2 h6
        by_cases hq1 : a.b = one6
        · have q1 : ∀ w, (binOp .eql 22 (.agg (bcells a.b)) (.agg #[Value.int .u8 0, Value.int .u8 0, Value.int .u8 0, Value.int .u8 0, Value.int .u8 0, Value.int .u8 0, Value.int .u8 0, Value.int .u8 0, Value.int .u8 0, Value.int .u8 0, Value.int .u8 0, Value.int .u8 0, Value.int .u8 0, Value.int .u8 0, Value.int .u8 0, Value.int .u8 1])).run Tryd.prog w = .ok (.bool true) w := fun w => eqb_yes (m := one6) ha rfl hq1 w
          have HR : Hid (a.kind = 2) := Lib.hid (by unfold Addr.kind; rw [if_neg (by rw [hval]; decide), if_neg hq0, if_pos h6, if_pos hq1])
          clear hval hq0 h6 hq1
          go_enter Tryd.func14, Tryd.ntmps14
          go_upto_region 1 with fail
          refine wp_named fun W hW => ?_
          obtain ⟨bk, BW, sW⟩ := box1 hW
          clear hW
          go_wp2_with (first | (refine wpList_load_blk rfl 24 _ rfl w.heap.size 24 _ _ rfl bk.out Tryd.underlying24 rfl (by as_aux_lemma => exact szc ‹_›) ?_) | (go_at_call 12; refine (valid_calls a ha _).mono ?_; rintro e W1 ⟨rfl, hB⟩; rw [HV.out]; have bk1 := Lib.hid (bk.out.later hB (by rw [sW.out]; omega)); have b0 := cell_v bk1.out; have b1 : W1.cell? ⟨w.heap.size, 1, none⟩ = some (.int .u8 a.first) := cell_b bk1.out ha 0 (by omega)) | (refine wpList_load_b rfl _ rfl w.heap.size a rfl bk1.out ha ?_))
          go_ret
          exact ⟨by rw [HR.out]; rfl, (keep BW hB).out⟩
        · have q1 : ∀ w, (binOp .eql 22 (.agg (bcells a.b)) (.agg #[Value.int .u8 0, Value.int .u8 0, Value.int .u8 0, Value.int .u8 0, Value.int .u8 0, Value.int .u8 0, Value.int .u8 0, Value.int .u8 0, Value.int .u8 0, Value.int .u8 0, Value.int .u8 0, Value.int .u8 0, Value.int .u8 0, Value.int .u8 0, Value.int .u8 0, Value.int .u8 1])).run Tryd.prog w = .ok (.bool false) w := fun w => eqb_no (m := one6) ha rfl hq1 w
          by_cases h255 : a.first = 255
          · have e255 : (a.first == 255) = true := beq_iff_eq.2 h255
            have HR : Hid (a.kind = 3) := Lib.hid (by unfold Addr.kind; rw [if_neg (by rw [hval]; decide), if_neg hq0, if_pos h6, if_neg hq1, if_pos h255])
            clear hval hq0 h6 hq1 h255
            go_enter Tryd.func14, Tryd.ntmps14
            go_upto_region 1 with fail
            refine wp_named fun W hW => ?_
            obtain ⟨bk, BW, sW⟩ := box1 hW
            clear hW
            go_wp2_with (first | (refine wpList_load_blk rfl 24 _ rfl w.heap.size 24 _ _ rfl bk.out Tryd.underlying24 rfl (by as_aux_lemma => exact szc ‹_›) ?_) | (go_at_call 12; refine (valid_calls a ha _).mono ?_; rintro e W1 ⟨rfl, hB⟩; rw [HV.out]; have bk1 := Lib.hid (bk.out.later hB (by rw [sW.out]; omega)); have b0 := cell_v bk1.out; have b1 : W1.cell? ⟨w.heap.size, 1, none⟩ = some (.int .u8 a.first) := cell_b bk1.out ha 0 (by omega)) | (refine wpList_load_b rfl _ rfl w.heap.size a rfl bk1.out ha ?_))
            go_ret
            exact ⟨by rw [HR.out]; rfl, (keep BW hB).out⟩
          · have e255 : (a.first == 255) = false := beq_eq_false_iff_ne.2 h255
            have HR : Hid (a.kind = 5) := Lib.hid (by unfold Addr.kind; rw [if_neg (by rw [hval]; decide), if_neg hq0, if_pos h6, if_neg hq1, if_neg h255])
            clear hval hq0 h6 hq1 h255
            go_enter Tryd.func14, Tryd.ntmps14
            go_upto_region 1 with fail
            refine wp_named fun W hW => ?_
            obtain ⟨bk, BW, sW⟩ := box1 hW
            clear hW
            go_wp2_with (first | (refine wpList_load_blk rfl 24 _ rfl w.heap.size 24 _ _ rfl bk.out Tryd.underlying24 rfl (by as_aux_lemma => exact szc ‹_›) ?_) | (go_at_call 12; refine (valid_calls a ha _).mono ?_; rintro e W1 ⟨rfl, hB⟩; rw [HV.out]; have bk1 := Lib.hid (bk.out.later hB (by rw [sW.out]; omega)); have b0 := cell_v bk1.out; have b1 : W1.cell? ⟨w.heap.size, 1, none⟩ = some (.int .u8 a.first) := cell_b bk1.out ha 0 (by omega)) | (refine wpList_load_b rfl _ rfl w.heap.size a rfl bk1.out ha ?_))
            go_ret
            exact ⟨by rw [HR.out]; rfl, (keep BW hB).out⟩
      · have e6 : (a.v == 6) = false := beq_eq_false_iff_ne.2 h6
        by_cases h127 : a.first = 127
        · have e127 : (a.first == 127) = true := beq_iff_eq.2 h127
          have HR : Hid (a.kind = 2) := Lib.hid (by unfold Addr.kind; rw [if_neg (by rw [hval]; decide), if_neg hq0, if_neg h6, if_pos h127])
          clear hval hq0 h6 h127
          go_enter Tryd.func14, Tryd.ntmps14
          go_upto_region 1 with fail
          refine wp_named fun W hW => ?_
          obtain ⟨bk, BW, sW⟩ := box1 hW
          clear hW
          go_wp2_with (first | (refine wpList_load_blk rfl 24 _ rfl w.heap.size 24 _ _ rfl bk.out Tryd.underlying24 rfl (by as_aux_lemma => exact szc ‹_›) ?_) | (go_at_call 12; refine (valid_calls a ha _).mono ?_; rintro e W1 ⟨rfl, hB⟩; rw [HV.out]; have bk1 := Lib.hid (bk.out.later hB (by rw [sW.out]; omega)); have b0 := cell_v bk1.out; have b1 : W1.cell? ⟨w.heap.size, 1, none⟩ = some (.int .u8 a.first) := cell_b bk1.out ha 0 (by omega)) | (refine wpList_load_b rfl _ rfl w.heap.size a rfl bk1.out ha ?_))
          go_ret
          exact ⟨by rw [HR.out]; rfl, (keep BW hB).out⟩
        · have e127 : (a.first == 127) = false := beq_eq_false_iff_ne.2 h127
          by_cases h224 : 224 ≤ a.first
          · have e224 : decide (224 ≤ a.first) = true := decide_eq_true h224
            by_cases h239 : a.first ≤ 239
            · have e239 : decide (a.first ≤ 239) = true := decide_eq_true h239
              have HR : Hid (a.kind = 3) := Lib.hid (by unfold Addr.kind; rw [if_neg (by rw [hval]; decide), if_neg hq0, if_neg h6, if_neg h127, if_pos h224, if_pos h239])
              clear hval hq0 h6 h127 h224 h239
              go_enter Tryd.func14, Tryd.ntmps14
              go_upto_region 1 with fail
              refine wp_named fun W hW => ?_
              obtain ⟨bk, BW, sW⟩ := box1 hW
              clear hW
              go_wp2_with (first | (refine wpList_load_blk rfl 24 _ rfl w.heap.size 24 _ _ rfl bk.out Tryd.underlying24 rfl (by as_aux_lemma => exact szc ‹_›) ?_) | (go_at_call 12; refine (valid_calls a ha _).mono ?_; rintro e W1 ⟨rfl, hB⟩; rw [HV.out]; have bk1 := Lib.hid (bk.out.later hB (by rw [sW.out]; omega)); have b0 := cell_v bk1.out; have b1 : W1.cell? ⟨w.heap.size, 1, none⟩ = some (.int .u8 a.first) := cell_b bk1.out ha 0 (by omega)) | (refine wpList_load_b rfl _ rfl w.heap.size a rfl bk1.out ha ?_))
              go_ret
              exact ⟨by rw [HR.out]; rfl, (keep BW hB).out⟩
            · have e239 : decide (a.first ≤ 239) = false := decide_eq_false h239
              by_cases hq2 : a.b = bcast
              · have q2 : ∀ w, (binOp .eql 22 (.agg (bcells a.b)) (.agg #[Value.int .u8 255, Value.int .u8 255, Value.int .u8 255, Value.int .u8 255, Value.int .u8 0, Value.int .u8 0, Value.int .u8 0, Value.int .u8 0, Value.int .u8 0, Value.int .u8 0, Value.int .u8 0, Value.int .u8 0, Value.int .u8 0, Value.int .u8 0, Value.int .u8 0, Value.int .u8 0])).run Tryd.prog w = .ok (.bool true) w := fun w => eqb_yes (m := bcast) ha rfl hq2 w
                have HR : Hid (a.kind = 4) := Lib.hid (by unfold Addr.kind; rw [if_neg (by rw [hval]; decide), if_neg hq0, if_neg h6, if_neg h127, if_pos h224, if_neg h239, if_pos hq2])
                clear hval hq0 h6 h127 h224 h239 hq2
                go_enter Tryd.func14, Tryd.ntmps14
                go_upto_region 1 with fail
                refine wp_named fun W hW => ?_
                obtain ⟨bk, BW, sW⟩ := box1 hW
                clear hW
                go_wp2_with (first | (refine wpList_load_blk rfl 24 _ rfl w.heap.size 24 _ _ rfl bk.out Tryd.underlying24 rfl (by as_aux_lemma => exact szc ‹_›) ?_) | (go_at_call 12; refine (valid_calls a ha _).mono ?_; rintro e W1 ⟨rfl, hB⟩; rw [HV.out]; have bk1 := Lib.hid (bk.out.later hB (by rw [sW.out]; omega)); have b0 := cell_v bk1.out; have b1 : W1.cell? ⟨w.heap.size, 1, none⟩ = some (.int .u8 a.first) := cell_b bk1.out ha 0 (by omega)) | (refine wpList_load_b rfl _ rfl w.heap.size a rfl bk1.out ha ?_))
                go_ret
                exact ⟨by rw [HR.out]; rfl, (keep BW hB).out⟩
              · have q2 : ∀ w, (binOp .eql 22 (.agg (bcells a.b)) (.agg #[Value.int .u8 255, Value.int .u8 255, Value.int .u8 255, Value.int .u8 255, Value.int .u8 0, Value.int .u8 0, Value.int .u8 0, Value.int .u8 0, Value.int .u8 0, Value.int .u8 0, Value.int .u8 0, Value.int .u8 0, Value.int .u8 0, Value.int .u8 0, Value.int .u8 0, Value.int .u8 0])).run Tryd.prog w = .ok (.bool false) w := fun w => eqb_no (m := bcast) ha rfl hq2 w
                have HR : Hid (a.kind = 5) := Lib.hid (by unfold Addr.kind; rw [if_neg (by rw [hval]; decide), if_neg hq0, if_neg h6, if_neg h127, if_pos h224, if_neg h239, if_neg hq2])
                clear hval hq0 h6 h127 h224 h239 hq2
                go_enter Tryd.func14, Tryd.ntmps14
                go_upto_region 1 with fail
                refine wp_named fun W hW => ?_
                obtain ⟨bk, BW, sW⟩ := box1 hW
                clear hW
                go_wp2_with (first | (refine wpList_load_blk rfl 24 _ rfl w.heap.size 24 _ _ rfl bk.out Tryd.underlying24 rfl (by as_aux_lemma => exact szc ‹_›) ?_) | (go_at_call 12; refine (valid_calls a ha _).mono ?_; rintro e W1 ⟨rfl, hB⟩; rw [HV.out]; have bk1 := Lib.hid (bk.out.later hB (by rw [sW.out]; omega)); have b0 := cell_v bk1.out; have b1 : W1.cell? ⟨w.heap.size, 1, none⟩ = some (.int .u8 a.first) := cell_b bk1.out ha 0 (by omega)) | (refine wpList_load_b rfl _ rfl w.heap.size a rfl bk1.out ha ?_))
                go_ret
                exact ⟨by rw [HR.out]; rfl, (keep BW hB).out⟩
          · have e224 : decide (224 ≤ a.first) = false := decide_eq_false h224
            by_cases hq2 : a.b = bcast
            · have q2 : ∀ w, (binOp .eql 22 (.agg (bcells a.b)) (.agg #[Value.int .u8 255, Value.int .u8 255, Value.int .u8 255, Value.int .u8 255, Value.int .u8 0, Value.int .u8 0, Value.int .u8 0, Value.int .u8 0, Value.int .u8 0, Value.int .u8 0, Value.int .u8 0, Value.int .u8 0, Value.int .u8 0, Value.int .u8 0, Value.int .u8 0, Value.int .u8 0])).run Tryd.prog w = .ok (.bool true) w := fun w => eqb_yes (m := bcast) ha rfl hq2 w
              have HR : Hid (a.kind = 4) := Lib.hid (by unfold Addr.kind; rw [if_neg (by rw [hval]; decide), if_neg hq0, if_neg h6, if_neg h127, if_neg h224, if_pos hq2])
              clear hval hq0 h6 h127 h224 hq2
              go_enter Tryd.func14, Tryd.ntmps14
              go_upto_region 1 with fail
              refine wp_named fun W hW => ?_
              obtain ⟨bk, BW, sW⟩ := box1 hW
              clear hW
              go_wp2_with (first | (refine wpList_load_blk rfl 24 _ rfl w.heap.size 24 _ _ rfl bk.out Tryd.underlying24 rfl (by as_aux_lemma => exact szc ‹_›) ?_) | (go_at_call 12; refine (valid_calls a ha _).mono ?_; rintro e W1 ⟨rfl, hB⟩; rw [HV.out]; have bk1 := Lib.hid (bk.out.later hB (by rw [sW.out]; omega)); have b0 := cell_v bk1.out; have b1 : W1.cell? ⟨w.heap.size, 1, none⟩ = some (.int .u8 a.first) := cell_b bk1.out ha 0 (by omega)) | (refine wpList_load_b rfl _ rfl w.heap.size a rfl bk1.out ha ?_))
              go_ret
              exact ⟨by rw [HR.out]; rfl, (keep BW hB).out⟩
            · have q2 : ∀ w, (binOp .eql 22 (.agg (bcells a.b)) (.agg #[Value.int .u8 255, Value.int .u8 255, Value.int .u8 255, Value.int .u8 255, Value.int .u8 0, Value.int .u8 0, Value.int .u8 0, Value.int .u8 0, Value.int .u8 0, Value.int .u8 0, Value.int .u8 0, Value.int .u8 0, Value.int .u8 0, Value.int .u8 0, Value.int .u8 0, Value.int .u8 0])).run Tryd.prog w = .ok (.bool false) w := fun w => eqb_no (m := bcast) ha rfl hq2 w
              have HR : Hid (a.kind = 5) := Lib.hid (by unfold Addr.kind; rw [if_neg (by rw [hval]; decide), if_neg hq0, if_neg h6, if_neg h127, if_neg h224, if_neg hq2])
              clear hval hq0 h6 h127 h224 hq2
              go_enter Tryd.func14, Tryd.ntmps14
              go_upto_region 1 with fail
              refine wp_named fun W hW => ?_
              obtain ⟨bk, BW, sW⟩ := box1 hW
              clear hW
              go_wp2_with (first | (refine wpList_load_blk rfl 24 _ rfl w.heap.size 24 _ _ rfl bk.out Tryd.underlying24 rfl (by as_aux_lemma => exact szc ‹_›) ?_) | (go_at_call 12; refine (valid_calls a ha _).mono ?_; rintro e W1 ⟨rfl, hB⟩; rw [HV.out]; have bk1 := Lib.hid (bk.out.later hB (by rw [sW.out]; omega)); have b0 := cell_v bk1.out; have b1 : W1.cell? ⟨w.heap.size, 1, none⟩ = some (.int .u8 a.first) := cell_b bk1.out ha 0 (by omega)) | (refine wpList_load_b rfl _ rfl w.heap.size a rfl bk1.out ha ?_))
              go_ret
              exact ⟨by rw [HR.out]; rfl, (keep BW hB).out⟩
  · have hval' : a.valid = false := by simpa using hval
    have HV := Lib.hid hval'
    have HR : Hid (a.kind = 0) := Lib.hid (by unfold Addr.kind; rw [if_pos hval'])
    clear hval hval'
    go_enter Tryd.func14, Tryd.ntmps14
    go_upto_region 1 with fail
    refine wp_named fun W hW => ?_
    obtain ⟨bk, BW, sW⟩ := box1 hW
    clear hW
    go_wp2_with (first | (refine wpList_load_blk rfl 24 _ rfl w.heap.size 24 _ _ rfl bk.out Tryd.underlying24 rfl (by as_aux_lemma => exact szc ‹_›) ?_) | (go_at_call 12; refine (valid_calls a ha _).mono ?_; rintro e W1 ⟨rfl, hB⟩; rw [HV.out]; have bk1 := Lib.hid (bk.out.later hB (by rw [sW.out]; omega)); have b0 := cell_v bk1.out; have b1 : W1.cell? ⟨w.heap.size, 1, none⟩ = some (.int .u8 a.first) := cell_b bk1.out ha 0 (by omega)) | (refine wpList_load_b rfl _ rfl w.heap.size a rfl bk1.out ha ?_))
    go_ret
    exact ⟨by rw [HR.out]; rfl, (keep BW hB).out⟩
end Go.Proofs.YtakdcndkpipfbaaDoor.Ad
