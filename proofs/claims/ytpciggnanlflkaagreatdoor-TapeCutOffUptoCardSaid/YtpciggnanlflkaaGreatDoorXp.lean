/- Contract of the laws' alive. Conditions: the library's variables hold what its text lays. -/
import Derived.Test.YtpciggnanlflkaaGreatDoorXo
namespace Go.Proofs.YtpciggnanlflkaaGreatDoor.Ad
set_option linter.unusedVariables false
set_option linter.unusedSimpArgs false
open Go.RowKit Go.Maps W
theorem term_info : (Tryz.prog.info? 56).map (fun i => (i.zero, i.size, i.bytes)) = some (some (.agg zeroT), 20, 48) := by kernel_rfl
theorem fill_any : Instr.fill (fun i => some (i * 20, 20)) ((Array.range (1 * 20)).map ((Value.agg zeroT).cells[· % (Value.agg zeroT).cells.size]!)) [(0, .agg anyC)] = some anyC := by kernel_rfl
theorem wpList_slice_any {w : World} {ops : Array Oper} {rest : List Oper} {o : Oper} {a : Act} {Q : Exit → Act → World → Prop} (hgd : o.guard = none) (x : Operand) (ho : o.op = .buildSlice 57 1 #[(0, x)]) (hx : a.eval x = .agg anyC)
    (h : wpList Tryz.prog ops Q rest (a.put o.dst (.slice (some ⟨w.heap.size, 0, none⟩) 1 1)) (w.alloc (.cells anyC 56))) : wpList Tryz.prog ops Q (o :: rest) a w := by
  obtain ⟨i0, hi, hz0, hz1, hz2⟩ := info_parts term_info
  refine wpList_buildSlice hgd 57 56 1 _ ho anyC i0 _ Tryz.underlying57 hi hz0 (by rw [hz1]; omega) (by rw [hz1]; omega) ?_ h
  rw [hz1]
  have e : (Array.map (fun (x : Nat × Operand) => match x with | (i, x) => (i, a.eval x)) #[(0, x)]).toList = [(0, .agg anyC)] := by simp [hx]
  have := fill_any
  rw [← e] at this
  exact this
/-- A call, and a variable laid for what it answered. -/
theorem step_box {w W V W' : World} {t : TypeId} {cs : Array Value} (hw : Hid (Below w.heap.size w W)) (hv : Below W.heap.size W V) (h : W' = V.alloc (.cells cs t)) : Hid (Blk W' V.heap.size t cs) ∧ Hid (Below W.heap.size W W') ∧ Hid (Below w.heap.size w W') ∧ Hid (W.heap.size ≤ V.heap.size) := by
  obtain ⟨h1, h2, _⟩ := box1 h
  have h3 := hv.trans (h2.out.mono hv.size)
  exact ⟨h1, Lib.hid h3, Lib.hid (hw.out.trans (h3.mono hw.out.size)), Lib.hid hv.size⟩
theorem bytes_cell {w : World} {q : Option Go.Addr} {l : List UInt8} (h : BAt w q l) (h0 : l ≠ []) : ∃ g o, q = some ⟨g, o, none⟩ ∧ ∀ (i : Nat) (x : UInt8), l[i]? = some x → w.cell? ⟨g, o + i, none⟩ = some (.int .u8 (x.toNat : Int)) := by
  rcases h with h | ⟨g, o, h1, h2, h3⟩
  · exact absurd h h0
  · refine ⟨g, o, h1, fun i x hx => ?_⟩
    have hi : i < l.length := (List.getElem?_eq_some_iff.1 hx).1
    rw [h3 i (by rw [S_size]; exact hi)]
    have : (S l)[i]'(by rw [S_size]; exact hi) = x := by
      have h4 := (List.getElem?_eq_some_iff.1 hx).2
      rw [← h4]; rfl
    rw [this]
set_option maxRecDepth 100000 in
set_option maxHeartbeats 8000000 in
theorem alive_calls (w : World) (hg : Gl w) : Calls Tryz.prog 9 #[] w fun e w' => e = .returned (.bool true) ∧ Below w.heap.size w w' := by
  have HG := Lib.hid hg
  have HW0 := Lib.hid (Below.refl w.heap.size w)
  have st1 : (!(S exTx).toList == [116, 97, 112, 101, 32, 52, 10, 48, 32, 48, 32, 111, 117, 116, 32, 54, 32, 58, 48, 49, 48, 50, 48, 51, 48, 52, 10, 48, 32, 50, 32, 105, 110, 32, 54, 32, 58, 48, 49, 48, 50, 48, 51, 48, 52, 10, 53, 32, 50, 32, 111, 117, 116, 32, 48, 32, 58, 10]) = false := by
    rw [ByteArray.toList_eq, S_list, exTx_is]; rfl
  have HPA := Lib.hid (fun (w : World) (h : Gl w) => ex_parse h)
  have HPR := Lib.hid (fun (w : World) (p : Option Go.Addr) (c : Nat) (h : Tin w p 3 c exT) (k : Gl w) => ex_print h k)
  obtain ⟨st, hst⟩ : ∃ s, S exTx = s := ⟨_, rfl⟩
  rw [hst] at st1 HPA HPR
  clear hg hst
  go_enter Tryz.func9, Tryz.ntmps9
  go_upto_region 2 with (go_at_call 32; refine (ex_example _).mono ?_; rintro e V1 ⟨p1, c1, rfl, hT1, hV1⟩)
  refine wp_named fun W1 hW1 => ?_
  obtain ⟨b1, B1, HW1, _⟩ := step_box HW0 hV1 hW1
  have HT1 := Lib.hid (hT1.later (box1 hW1).2.1.out)
  obtain ⟨g1, hg1⟩ : ∃ g, V1.heap.size = g := ⟨_, rfl⟩
  rw [hg1] at b1 ⊢
  clear hW1 hT1 hV1 B1 hg1
  have x10 : W1.cell? ⟨g1, 0, none⟩ = some (.int .i64 4) := b1.out.cell _
  have x11 : W1.cell? ⟨g1, 1, none⟩ = some (.slice p1 3 c1) := b1.out.cell _
  go_upto_region 3 with (go_at_call 10; refine (ex_build HT1.out).mono ?_; rintro e V2 ⟨p2, c2, rfl, hB2, hS2, hQ2, hV2⟩)
  have HW2 := keep HW1 hV2
  have b1 := Lib.hid (b1.out.later hV2 b1.out.lt)
  have HT1 := Lib.hid (HT1.out.later hV2)
  have HB2 := Lib.hid hB2
  have HS2 := Lib.hid hS2
  have HQ2 := Lib.hid hQ2
  clear x10 x11 hV2 hB2 hS2 hQ2
  go_upto_region 4 with (go_at_call 18; refine (ex_read HB2.out HS2.out HQ2.out).mono ?_; rintro e V3 ⟨p3, c3, rfl, hT3, hV3⟩)
  refine wp_named fun W3 hW3 => ?_
  obtain ⟨b3, B3, HW3, _⟩ := step_box HW2 hV3 hW3
  have HT3 := Lib.hid (hT3.later (box1 hW3).2.1.out)
  have b1 := Lib.hid (b1.out.later B3.out b1.out.lt)
  have HT1 := Lib.hid (HT1.out.later B3.out)
  have HB2 := Lib.hid (HB2.out.later B3.out)
  obtain ⟨g3, hg3⟩ : ∃ g, V3.heap.size = g := ⟨_, rfl⟩
  rw [hg3] at b3 ⊢
  clear hW3 hT3 hV3 B3 hg3
  have x10 : W3.cell? ⟨g1, 0, none⟩ = some (.int .i64 4) := b1.out.cell _
  have x11 : W3.cell? ⟨g1, 1, none⟩ = some (.slice p1 3 c1) := b1.out.cell _
  have HG3 := Lib.hid (HG.out.later HW3.out)
  go_upto_region 5 with (go_at_call 13; refine (HPR.out _ _ _ HT1.out HG3.out).mono ?_; rintro e V4 ⟨rfl, hV4⟩)
  have HW4 := keep HW3 hV4
  have b1 := Lib.hid (b1.out.later hV4 b1.out.lt)
  have b3 := Lib.hid (b3.out.later hV4 b3.out.lt)
  have HT1 := Lib.hid (HT1.out.later hV4)
  have HT3 := Lib.hid (HT3.out.later hV4)
  have HB2 := Lib.hid (HB2.out.later hV4)
  have HG4 := Lib.hid (HG.out.later HW4.out)
  clear x10 x11 hV4 HG3
  go_upto_region 6 with (go_at_call 21; refine (HPA.out _ HG4.out).mono ?_; rintro e V5 ⟨p5, c5, rfl, hT5, hV5⟩)
  refine wp_named fun W5 hW5 => ?_
  obtain ⟨b5, B5, HW5, _⟩ := step_box HW4 hV5 hW5
  have HT5 := Lib.hid (hT5.later (box1 hW5).2.1.out)
  have b1 := Lib.hid (b1.out.later B5.out b1.out.lt)
  have b3 := Lib.hid (b3.out.later B5.out b3.out.lt)
  have HT1 := Lib.hid (HT1.out.later B5.out)
  have HT3 := Lib.hid (HT3.out.later B5.out)
  have HB2 := Lib.hid (HB2.out.later B5.out)
  obtain ⟨g5, hg5⟩ : ∃ g, V5.heap.size = g := ⟨_, rfl⟩
  rw [hg5] at b5 ⊢
  clear hW5 hT5 hV5 B5 hg5 HG4
  have x10 : W5.cell? ⟨g1, 0, none⟩ = some (.int .i64 4) := b1.out.cell _
  have x11 : W5.cell? ⟨g1, 1, none⟩ = some (.slice p1 3 c1) := b1.out.cell _
  have x30 : W5.cell? ⟨g3, 0, none⟩ = some (.int .i64 4) := b3.out.cell _
  have x31 : W5.cell? ⟨g3, 1, none⟩ = some (.slice p3 3 c3) := b3.out.cell _
  have x50 : W5.cell? ⟨g5, 0, none⟩ = some (.int .i64 4) := b5.out.cell _
  have x51 : W5.cell? ⟨g5, 1, none⟩ = some (.slice p5 3 c5) := b5.out.cell _
  obtain ⟨gb, ob, rfl, hcb⟩ := bytes_cell HB2.out (fun h => by have := exBy_len; rw [h] at this; cases this)
  obtain ⟨q1, q2, q3, q4⟩ := exBy_at
  have y3 : W5.cell? ⟨gb, ob + 3, none⟩ = some (.int .u8 101) := hcb 3 _ q1
  have y8 : W5.cell? ⟨gb, ob + 8, none⟩ = some (.int .u8 4) := hcb 8 _ q2
  have y12 : W5.cell? ⟨gb, ob + 12, none⟩ = some (.int .u8 3) := hcb 12 _ q3
  have y62 : W5.cell? ⟨gb, ob + 62, none⟩ = some (.int .u8 0) := hcb 62 _ q4
  clear hcb q1 q2 q3 q4
  go_upto_region 8 with (first | (go_at_call 23; (with_reducible refine (ex_same HT1.out HT3.out).mono ?_); rintro e V6 ⟨rfl, hV6⟩; have x10 := (hV6.cell (World.block_lt_of_cell? _ _ x10)).trans x10; have x11 := (hV6.cell (World.block_lt_of_cell? _ _ x11)).trans x11; have x50 := (hV6.cell (World.block_lt_of_cell? _ _ x50)).trans x50; have x51 := (hV6.cell (World.block_lt_of_cell? _ _ x51)).trans x51) | (go_at_call 23; (with_reducible refine (ex_same (HT1.out.later hV6) (HT5.out.later hV6)).mono ?_); rintro e V7 ⟨rfl, hV7⟩))
  have B7 := Lib.hid (hV6.trans (hV7.mono hV6.size))
  have HW7 := keep HW5 B7.out
  have b1 := Lib.hid (b1.out.later B7.out b1.out.lt)
  have HT1 := Lib.hid (HT1.out.later B7.out)
  clear hV6 hV7 x10 x11 x30 x31 x50 x51 y3 y8 y12 y62 b3 b5 HT3 HT5 HB2 HS2 HQ2
  clear B7
  have x10 : V7.cell? ⟨g1, 0, none⟩ = some (.int .i64 4) := b1.out.cell _
  have x11 : V7.cell? ⟨g1, 1, none⟩ = some (.slice p1 3 c1) := b1.out.cell _
  go_upto_region 10 with fail
  go_upto_region 11 with (go_at_call 28; refine (ex_snip HT1.out).mono ?_; rintro e V8 ⟨p8, c8, rfl, hT8, hV8⟩)
  refine wp_named fun W8 hW8 => ?_
  obtain ⟨b8, B8, HW8, _⟩ := step_box HW7 hV8 hW8
  have HT8 := Lib.hid (hT8.later (box1 hW8).2.1.out)
  have b1 := Lib.hid (b1.out.later B8.out b1.out.lt)
  have HT1 := Lib.hid (HT1.out.later B8.out)
  obtain ⟨g8, hg8⟩ : ∃ g, V8.heap.size = g := ⟨_, rfl⟩
  rw [hg8] at b8 ⊢
  clear hW8 hT8 hV8 B8 hg8 x10 x11
  have x10 : W8.cell? ⟨g1, 0, none⟩ = some (.int .i64 4) := b1.out.cell _
  have x11 : W8.cell? ⟨g1, 1, none⟩ = some (.slice p1 3 c1) := b1.out.cell _
  go_upto_region 12 with (go_at_call 30; refine (ex_between HT1.out).mono ?_; rintro e V9 ⟨p9, c9, rfl, hT9, hV9⟩)
  refine wp_named fun W9 hW9 => ?_
  obtain ⟨b9, B9, HW9, _⟩ := step_box HW8 hV9 hW9
  have HT9 := Lib.hid (hT9.later (box1 hW9).2.1.out)
  have b1 := Lib.hid (b1.out.later B9.out b1.out.lt)
  have b8 := Lib.hid (b8.out.later B9.out b8.out.lt)
  have HT1 := Lib.hid (HT1.out.later B9.out)
  have HT8 := Lib.hid (HT8.out.later B9.out)
  obtain ⟨g9, hg9⟩ : ∃ g, V9.heap.size = g := ⟨_, rfl⟩
  rw [hg9] at b9 ⊢
  clear hW9 hT9 hV9 B9 hg9 x10 x11
  have x10 : W9.cell? ⟨g1, 0, none⟩ = some (.int .i64 4) := b1.out.cell _
  have x11 : W9.cell? ⟨g1, 1, none⟩ = some (.slice p1 3 c1) := b1.out.cell _
  go_upto_region 13 with (go_at_call 27; refine (ex_merge HT1.out HT1.out).mono ?_; rintro e V10 ⟨p10, c10, rfl, hT10, hV10⟩)
  refine wp_named fun W10 hW10 => ?_
  obtain ⟨b10, B10, HW10, _⟩ := step_box HW9 hV10 hW10
  have HT10 := Lib.hid (hT10.later (box1 hW10).2.1.out)
  have b1 := Lib.hid (b1.out.later B10.out b1.out.lt)
  have b8 := Lib.hid (b8.out.later B10.out b8.out.lt)
  have b9 := Lib.hid (b9.out.later B10.out b9.out.lt)
  have HT1 := Lib.hid (HT1.out.later B10.out)
  have HT8 := Lib.hid (HT8.out.later B10.out)
  obtain ⟨g10, hg10⟩ : ∃ g, V10.heap.size = g := ⟨_, rfl⟩
  rw [hg10] at b10 ⊢
  clear hW10 hT10 hV10 B10 hg10 x10 x11
  have x10 : W10.cell? ⟨g1, 0, none⟩ = some (.int .i64 4) := b1.out.cell _
  have x11 : W10.cell? ⟨g1, 1, none⟩ = some (.slice p1 3 c1) := b1.out.cell _
  go_upto_region 14 with (first | (refine wpList_build1 rfl 56 0 _ rfl _ rfl anyC any_built ?_) | (refine wpList_slice_any rfl _ rfl rfl ?_) | (go_at_call 31; refine (ex_pick (HT1.out.later ((Below.refl _ _).alloc (Nat.le_refl _) _)) ⟨_, rfl, Blk.new _ _ _⟩).mono ?_; rintro e V11 ⟨p11, c11, rfl, hT11, hV11⟩))
  refine wp_named fun W11 hW11 => ?_
  have hV11 := ((Below.refl _ W10).alloc (Nat.le_refl _) (.cells anyC 56)).trans (hV11.mono (by simp))
  obtain ⟨b11, B11, HW11, _⟩ := step_box HW10 hV11 hW11
  have HT11 := Lib.hid (hT11.later (box1 hW11).2.1.out)
  have b1 := Lib.hid (b1.out.later B11.out b1.out.lt)
  have b8 := Lib.hid (b8.out.later B11.out b8.out.lt)
  have b9 := Lib.hid (b9.out.later B11.out b9.out.lt)
  have b10 := Lib.hid (b10.out.later B11.out b10.out.lt)
  have HT1 := Lib.hid (HT1.out.later B11.out)
  have HT8 := Lib.hid (HT8.out.later B11.out)
  have HT10 := Lib.hid (HT10.out.later B11.out)
  obtain ⟨g11, hg11⟩ : ∃ g, V11.heap.size = g := ⟨_, rfl⟩
  rw [hg11] at b11 ⊢
  clear hW11 hT11 hV11 B11 hg11 x10 x11
  have x10 : W11.cell? ⟨g1, 0, none⟩ = some (.int .i64 4) := b1.out.cell _
  have x11 : W11.cell? ⟨g1, 1, none⟩ = some (.slice p1 3 c1) := b1.out.cell _
  go_upto_region 15 with (go_at_call 28; refine (ex_snip5 HT1.out).mono ?_; rintro e V12 ⟨p12, c12, rfl, hV12⟩)
  refine wp_named fun W12 hW12 => ?_
  obtain ⟨b12, B12, HW12, _⟩ := step_box HW11 hV12 hW12
  have b1 := Lib.hid (b1.out.later B12.out b1.out.lt)
  have b8 := Lib.hid (b8.out.later B12.out b8.out.lt)
  have b9 := Lib.hid (b9.out.later B12.out b9.out.lt)
  have b10 := Lib.hid (b10.out.later B12.out b10.out.lt)
  have b11 := Lib.hid (b11.out.later B12.out b11.out.lt)
  have HT1 := Lib.hid (HT1.out.later B12.out)
  have HT8 := Lib.hid (HT8.out.later B12.out)
  have HT10 := Lib.hid (HT10.out.later B12.out)
  have HT11 := Lib.hid (HT11.out.later B12.out)
  obtain ⟨g12, hg12⟩ : ∃ g, V12.heap.size = g := ⟨_, rfl⟩
  rw [hg12] at b12 ⊢
  clear hW12 hV12 B12 hg12 x10 x11
  have x10 : W12.cell? ⟨g1, 0, none⟩ = some (.int .i64 4) := b1.out.cell _
  have x11 : W12.cell? ⟨g1, 1, none⟩ = some (.slice p1 3 c1) := b1.out.cell _
  have x80 : W12.cell? ⟨g8, 0, none⟩ = some (.int .i64 2) := b8.out.cell _
  have x81 : W12.cell? ⟨g8, 1, none⟩ = some (.slice p8 3 c8) := b8.out.cell _
  have x90 : W12.cell? ⟨g9, 0, none⟩ = some (.int .i64 4) := b9.out.cell _
  have x91 : W12.cell? ⟨g9, 1, none⟩ = some (.slice p9 2 c9) := b9.out.cell _
  have x100 : W12.cell? ⟨g10, 0, none⟩ = some (.int .i64 4) := b10.out.cell _
  have x101 : W12.cell? ⟨g10, 1, none⟩ = some (.slice p10 6 c10) := b10.out.cell _
  have x110 : W12.cell? ⟨g11, 0, none⟩ = some (.int .i64 4) := b11.out.cell _
  have x111 : W12.cell? ⟨g11, 1, none⟩ = some (.slice p11 3 c11) := b11.out.cell _
  obtain ⟨_, _, k3, k4⟩ := exSn_is
  obtain ⟨r0, hr0⟩ : ∃ r, exSn.recs[0]? = some r := by
    cases h : exSn.recs[0]? with
    | none => rw [h] at k4; cases k4
    | some r => exact ⟨r, rfl⟩
  rw [hr0] at k4
  have k4 : r0.data.length = 2 := by simpa using k4
  obtain ⟨e8, o8, rfl, _, pd8, cd8, hr8, _, _⟩ := own_cellsB HT8.out.2.1 hr0
  have y8 : W12.cell? ⟨e8, o8 + 4, none⟩ = some (.slice pd8 2 cd8) := by have := hr8 4 _ rfl; rw [k4] at this; simpa using this
  obtain ⟨_, _, j3, j4⟩ := exMg_is
  obtain ⟨r4, hr4⟩ : ∃ r, exMg.recs[4]? = some r := by
    cases h : exMg.recs[4]? with
    | none => rw [h] at j4; cases j4
    | some r => exact ⟨r, rfl⟩
  rw [hr4] at j4
  have j4 : r4.tk = 5 := by simpa using j4
  obtain ⟨e10, o10, rfl, _, pd10, cd10, hr10, _, _⟩ := own_cellsB HT10.out.2.1 hr4
  have y10 : W12.cell? ⟨e10, o10 + 20, none⟩ = some (.int .i64 5) := by have := hr10 0 _ rfl; rw [j4] at this; simpa using this
  clear k3 k4 hr0 hr8 j3 j4 hr4 hr10
  go_upto_region 17 with (go_at_call 23; refine (ex_same HT11.out HT1.out).mono ?_; rintro e V13 ⟨rfl, hV13⟩)
  have HW13 := keep HW12 hV13
  have x10 : V13.cell? ⟨g1, 0, none⟩ = some (.int .i64 4) := (b1.out.later hV13 b1.out.lt).cell _
  have x11 : V13.cell? ⟨g1, 1, none⟩ = some (.slice p1 3 c1) := (b1.out.later hV13 b1.out.lt).cell _
  have HT1 := Lib.hid (HT1.out.later hV13)
  clear hV13
  go_wp2_with (first | (go_at_call 16; (with_reducible refine (ex_isright HT1.out).mono ?_); rintro e V14 ⟨rfl, hV14⟩) | (go_at_call 16; (with_reducible refine (ex_noright _).mono ?_); rintro e V15 ⟨rfl, hV15⟩))
  go_ret
  exact ⟨rfl, (keep (keep HW13 hV14) hV15).out⟩
end Go.Proofs.YtpciggnanlflkaaGreatDoor.Ad
