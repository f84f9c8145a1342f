/- Contract of tape.Merge. Conditions: none beyond those that the theorem states. -/
import Derived.Test.YtpciggnanlflkaaGreatDoorWo
namespace Go.Proofs.YtpciggnanlflkaaGreatDoor.Ad
set_option linter.unusedVariables false
set_option linter.unusedSimpArgs false
open Go.RowKit Go.Maps W
/-- The records of two lists, in the order of their ticks. -/
def mergeR (s : Int) : List Rec → List Rec → List Rec
  | [], ys => ys.map (cutV · s)
  | x :: xs, [] => (x :: xs).map (cutV · s)
  | x :: xs, y :: ys => if x.tk ≤ y.tk then cutV x s :: mergeR s xs (y :: ys) else cutV y s :: mergeR s (x :: xs) ys
termination_by xs ys => xs.length + ys.length
theorem mergeR_nil (s : Int) (xs : List Rec) : mergeR s xs [] = xs.map (cutV · s) := by cases xs <;> simp [mergeR]
theorem mergeR_x {s : Int} {x : Rec} {xs ys : List Rec} (h : ∀ y l, ys = y :: l → x.tk ≤ y.tk) : mergeR s (x :: xs) ys = cutV x s :: mergeR s xs ys := by
  cases ys with
  | nil => rw [mergeR_nil, mergeR_nil]; rfl
  | cons y l => rw [mergeR, if_pos (h y l rfl)]
theorem mergeR_y {s : Int} {y : Rec} {xs ys : List Rec} (h : ∀ x l, xs = x :: l → y.tk < x.tk) : mergeR s xs (y :: ys) = cutV y s :: mergeR s xs ys := by
  cases xs with
  | nil => rw [mergeR, mergeR]; rfl
  | cons x l => rw [mergeR, if_neg (by have := h x l rfl; omega)]
/-- What Merge answers. -/
def mergeV (a b : Tp) : Tp × Int := if rightV a = true ∧ rightV b = true then (if 4096 < a.recs.length + b.recs.length then (⟨0, []⟩, 3) else (⟨min a.snap b.snap, mergeR (min a.snap b.snap) a.recs b.recs⟩, 0)) else (⟨0, []⟩, 1)
theorem RAt.head {w : World} {p : Option Go.Addr} {r : Rec} {l : List Rec} (h : RAt w p (r :: l)) : ∃ g o, p = some ⟨g, o, none⟩ ∧ g < w.heap.size ∧ (∃ pd cd, w.rangeAt g o (recC r (.slice pd r.data.length cd)) ∧ BAt w pd r.data ∧ SlOk pd r.data.length cd) ∧ RAt w (some ⟨g, o + 5, none⟩) l := by
  rcases h with h | ⟨g, o, rfl, hg, hh⟩
  · cases h
  · obtain ⟨pd, cd, h1, h2⟩ := hh 0 r rfl
    refine ⟨g, o, rfl, hg, ⟨pd, cd, by simpa using h1, h2⟩, .inr ⟨g, o + 5, rfl, hg, fun i q hq => ?_⟩⟩
    obtain ⟨pd, cd, h1, h2⟩ := hh (i + 1) q (by simpa using hq)
    exact ⟨pd, cd, by rw [show o + 5 + i * 5 = o + (i + 1) * 5 by omega]; exact h1, h2⟩
def sliceLen : Value → Nat
  | .slice _ n _ => n
  | _ => 0
set_option maxRecDepth 100000 in
set_option maxHeartbeats 4000000 in
theorem merge_calls (a b : Tp) (p q : Option Go.Addr) (c d : Nat) (w : World) (hp : RAt w p a.recs) (hq : RAt w q b.recs) (hsp : SlOk p a.recs.length c) (hsq : SlOk q b.recs.length d) :
    Calls Tryz.prog 27 #[.agg #[.int .i64 a.snap, .slice p a.recs.length c], .agg #[.int .i64 b.snap, .slice q b.recs.length d]] w fun e w' =>
    ∃ v ds, e = .returned (.tuple #[.agg #[.int .i64 (mergeV a b).1.snap, v], .int .i64 (mergeV a b).2]) ∧ TO w' w.heap.size v (mergeV a b).1.recs ds ∧ Below w.heap.size w w' := by
  have HP := Lib.hid hp
  have HQ := Lib.hid hq
  have HSP := Lib.hid hsp
  have HSQ := Lib.hid hsq
  have HR := Lib.hid (fun w' (h : Below w.heap.size w w') => right_calls a p c w' (hp.later h))
  have HR2 := Lib.hid (fun w' (h : Below w.heap.size w w') => right_calls b q d w' (hq.later h))
  obtain ⟨ra, hra⟩ : ∃ b, rightV a = b := ⟨_, rfl⟩
  have HRA := Lib.hid hra
  obtain ⟨rb, hrb⟩ : ∃ b', rightV b = b' := ⟨_, rfl⟩
  have HRB := Lib.hid hrb
  obtain ⟨n, hn⟩ : ∃ n, a.recs.length = n := ⟨_, rfl⟩
  have HN := Lib.hid hn
  obtain ⟨m, hm⟩ : ∃ n, b.recs.length = n := ⟨_, rfl⟩
  have HM := Lib.hid hm
  obtain ⟨sa, hsa⟩ : ∃ n, a.snap = n := ⟨_, rfl⟩
  have HSA := Lib.hid hsa
  obtain ⟨sb, hsb⟩ : ∃ n, b.snap = n := ⟨_, rfl⟩
  have HSB := Lib.hid hsb
  rw [hn, hsa] at HR
  rw [hm, hsb] at HR2
  rw [hn, hm, hsa, hsb]
  rw [hra] at HR
  rw [hrb] at HR2
  rw [hn] at HSP
  rw [hm] at HSQ
  clear hp hq hra hrb hn hm hsa hsb hsp hsq
  obtain ⟨i0, hi, hz0, hz1, hz2⟩ := info_parts rec_info
  go_enter Tryz.func27, Tryz.ntmps27
  go_upto_region 1 with fail
  refine wp_named fun W hW => ?_
  obtain ⟨bk, bl, bq, BW, sW⟩ := box3 hW
  obtain ⟨b0, hb0⟩ : ∃ b, w.heap.size = b := ⟨_, rfl⟩
  have HB0 := Lib.hid hb0
  have c0 : W.cell? ⟨w.heap.size, 0, none⟩ = some (.int .i64 sa) := bk.out.cell _
  have c1 : W.cell? ⟨w.heap.size, 1, none⟩ = some (.slice p n c) := bk.out.cell _
  have d0 : W.cell? ⟨w.heap.size + 1, 0, none⟩ = some (.int .i64 sb) := bl.out.cell _
  have d1 : W.cell? ⟨w.heap.size + 1, 1, none⟩ = some (.slice q m d) := bl.out.cell _
  rw [hb0] at bk bl bq sW c0 c1 d0 d1 ⊢
  clear hW hb0
  have bqlt := Lib.hid bq.out.lt
  cases ra
  · have HVV : Hid (mergeV a b = (⟨0, []⟩, 1)) := Lib.hid (by unfold mergeV; rw [HRA.out, if_neg (by simp)])
    go_wp2_with (go_at_call 16; with_reducible refine (HR.out W BW.out).mono ?_; rintro e V ⟨rfl, hB1⟩; have bq := Lib.hid (bq.out.later hB1 bq.out.lt); have q0 : V.cell? ⟨b0 + 1 + 1, 0, none⟩ = some (.int .i64 0) := bq.out.cell _; have q1 : V.cell? ⟨b0 + 1 + 1, 1, none⟩ = some (.slice none 0 0) := bq.out.cell _; have g0 : V.frozen? ⟨b0 + 1 + 1, 0, none⟩ = false := bq.out.frozen _; have g1 : V.frozen? ⟨b0 + 1 + 1, 1, none⟩ = false := bq.out.frozen _)
    obtain ⟨k1, k2, k3⟩ := tape_fin (w := w) 0 bq.out (TO.nil _ (b0 + 3)) (by omega) (keep BW hB1).out (by rw [HB0.out]; omega) (by rw [HB0.out]; omega)
    refine bodyPost_ret (v := .tuple #[.agg #[.int .i64 0, .slice none 0 0], .int .i64 1]) (by exact results_cell2 (fn := Tryz.f27) rfl _ _ (b0 + 1 + 1) 24 _ _ rfl k1 Tryz.underlying24 rfl tape_size) rfl ⟨.slice none 0 0, [], ?_, ?_, k3⟩
    · rw [HVV.out]
    · rw [HVV.out]; exact k2
  cases rb
  · have HVV : Hid (mergeV a b = (⟨0, []⟩, 1)) := Lib.hid (by unfold mergeV; rw [HRB.out, if_neg (by simp)])
    go_wp2_with (first | (go_at_call 16; with_reducible refine (HR.out W BW.out).mono ?_; rintro e V0 ⟨rfl, hB1⟩; have c0 := (hB1.cell (World.block_lt_of_cell? _ _ c0)).trans c0; have c1 := (hB1.cell (World.block_lt_of_cell? _ _ c1)).trans c1; have d0 := (hB1.cell (World.block_lt_of_cell? _ _ d0)).trans d0; have d1 := (hB1.cell (World.block_lt_of_cell? _ _ d1)).trans d1) | (go_at_call 16; with_reducible refine (HR2.out V0 (keep BW hB1).out).mono ?_; rintro e V ⟨rfl, hB2⟩; have bq := Lib.hid ((bq.out.later hB1 bq.out.lt).later hB2 (by have := hB1.size; have := bqlt.out; omega)); have q0 : V.cell? ⟨b0 + 1 + 1, 0, none⟩ = some (.int .i64 0) := bq.out.cell _; have q1 : V.cell? ⟨b0 + 1 + 1, 1, none⟩ = some (.slice none 0 0) := bq.out.cell _; have g0 : V.frozen? ⟨b0 + 1 + 1, 0, none⟩ = false := bq.out.frozen _; have g1 : V.frozen? ⟨b0 + 1 + 1, 1, none⟩ = false := bq.out.frozen _))
    obtain ⟨k1, k2, k3⟩ := tape_fin (w := w) 0 bq.out (TO.nil _ (b0 + 3)) (by omega) (keep (keep BW hB1) hB2).out (by rw [HB0.out]; omega) (by rw [HB0.out]; omega)
    refine bodyPost_ret (v := .tuple #[.agg #[.int .i64 0, .slice none 0 0], .int .i64 1]) (by exact results_cell2 (fn := Tryz.f27) rfl _ _ (b0 + 1 + 1) 24 _ _ rfl k1 Tryz.underlying24 rfl tape_size) rfl ⟨.slice none 0 0, [], ?_, ?_, k3⟩
    · rw [HVV.out]
    · rw [HVV.out]; exact k2
  go_upto_region 3 with (first | (go_at_call 16; with_reducible refine (HR.out W BW.out).mono ?_; rintro e V0 ⟨rfl, hB1⟩; have c0 := (hB1.cell (World.block_lt_of_cell? _ _ c0)).trans c0; have c1 := (hB1.cell (World.block_lt_of_cell? _ _ c1)).trans c1; have d0 := (hB1.cell (World.block_lt_of_cell? _ _ d0)).trans d0; have d1 := (hB1.cell (World.block_lt_of_cell? _ _ d1)).trans d1) | (go_at_call 16; with_reducible refine (HR2.out V0 (keep BW hB1).out).mono ?_; rintro e V ⟨rfl, hB2⟩; have c0 := (hB2.cell (World.block_lt_of_cell? _ _ c0)).trans c0; have c1 := (hB2.cell (World.block_lt_of_cell? _ _ c1)).trans c1; have d0 := (hB2.cell (World.block_lt_of_cell? _ _ d0)).trans d0; have d1 := (hB2.cell (World.block_lt_of_cell? _ _ d1)).trans d1))
  have BV := keep (keep BW hB1) hB2
  have hB12 := hB1.trans (hB2.mono hB1.size)
  have bq := Lib.hid (bq.out.later hB12 bq.out.lt)
  have bqlt := Lib.hid bq.out.lt
  have hb32 : n ≤ 4096 := by have := right_len HRA.out; rw [HN.out] at this; exact this
  have hb33 : m ≤ 4096 := by have := right_len HRB.out; rw [HM.out] at this; exact this
  have HDA := Lib.hid (right_data HRA.out)
  have HDB := Lib.hid (right_data HRB.out)
  have HS0 : Hid (0 ≤ sa ∧ 0 ≤ sb) := Lib.hid ⟨by have := (right_snap HRA.out).1; rw [HSA.out] at this; exact this, by have := (right_snap HRB.out).1; rw [HSB.out] at this; exact this⟩
  clear hB1 hB2 hB12 HR HR2
  by_cases hlong : 4096 < n + m
  · have HVV : Hid (mergeV a b = (⟨0, []⟩, 3)) := Lib.hid (by unfold mergeV; rw [HRA.out, HRB.out, if_pos ⟨rfl, rfl⟩, HN.out, HM.out, if_pos hlong])
    have e0 : decide ((4096 : Int) < (n : Int) + (m : Int)) = true := decide_eq_true (by omega)
    have e0' : decide (4096 < n + m) = true := decide_eq_true hlong
    have q0 : V.cell? ⟨b0 + 1 + 1, 0, none⟩ = some (.int .i64 0) := bq.out.cell _
    have q1 : V.cell? ⟨b0 + 1 + 1, 1, none⟩ = some (.slice none 0 0) := bq.out.cell _
    have g0 : V.frozen? ⟨b0 + 1 + 1, 0, none⟩ = false := bq.out.frozen _
    have g1 : V.frozen? ⟨b0 + 1 + 1, 1, none⟩ = false := bq.out.frozen _
    clear hlong
    go_wp2
    obtain ⟨k1, k2, k3⟩ := tape_fin (w := w) 0 bq.out (TO.nil _ (b0 + 3)) (by omega) BV.out (by rw [HB0.out]; omega) (by rw [HB0.out]; omega)
    refine bodyPost_ret (v := .tuple #[.agg #[.int .i64 0, .slice none 0 0], .int .i64 3]) (by exact results_cell2 (fn := Tryz.f27) rfl _ _ (b0 + 1 + 1) 24 _ _ rfl k1 Tryz.underlying24 rfl tape_size) rfl ⟨.slice none 0 0, [], ?_, ?_, k3⟩
    · rw [HVV.out]
    · rw [HVV.out]; exact k2
  have HVV : Hid (mergeV a b = (⟨min sa sb, mergeR (min sa sb) a.recs b.recs⟩, 0)) := Lib.hid (by unfold mergeV; rw [HRA.out, HRB.out, if_pos ⟨rfl, rfl⟩, HN.out, HM.out, if_neg hlong, HSA.out, HSB.out])
  have e0 : decide ((4096 : Int) < (n : Int) + (m : Int)) = false := decide_eq_false (by omega)
  have e0' : decide (4096 < n + m) = false := decide_eq_false hlong
  obtain ⟨s, hs⟩ : ∃ s, min sa sb = s := ⟨_, rfl⟩
  have hs0 : Hid (0 ≤ s) := Lib.hid (by have := HS0.out; omega)
  rw [hs] at HVV
  have hnm : n + m ≤ 4096 := by omega
  clear hlong
  go_upto_region 6 with fail
  refine wp_named fun X hX => ?_
  obtain ⟨bo, BX, sX⟩ := box1 hX
  obtain ⟨o0, ho0⟩ : ∃ o, V.heap.size = o := ⟨_, rfl⟩
  have HBX := keep BV BX.out
  have HLO : Hid (b0 + 1 + 1 < o0) := Lib.hid (by have := bqlt.out; omega)
  have c1 := (BX.out.cell (World.block_lt_of_cell? _ _ c1)).trans c1
  have d1 := (BX.out.cell (World.block_lt_of_cell? _ _ d1)).trans d1
  have bq := Lib.hid (bq.out.later BX.out bq.out.lt)
  rw [ho0] at bo sX ⊢
  clear hX ho0 c0 d0 BX
  go_quiet (fail)
  clear c1 d1
  go_upto_region 7 with fail
  refine wp_named fun X1 hX1 => ?_
  have hXX : Below X.heap.size X X1 := by rw [hX1]; exact Below.drewN' (Below.refl _ _) _
  have bo := Lib.hid (bo.out.later hXX bo.out.lt)
  have bq := Lib.hid (bq.out.later hXX bq.out.lt)
  have HBX := Lib.hid (HBX.out.trans (hXX.mono HBX.out.size))
  have sX : Hid (X1.heap.size = o0 + 1) := Lib.hid (by rw [hX1]; simpa [World.drewN] using sX.out)
  clear hX1 hXX
  go_loopw [7, 8] (fun u7 u8 wr => ∃ (px : Option Go.Addr) (nx cx : Nat) (py : Option Go.Addr) (ny cy : Nat) (xs ys acc : List Rec) (v : Value) (ds : List Value), u7 = .slice px nx cx ∧ u8 = .slice py ny cy ∧ nx + ny ≤ 4096 ∧ nx ≤ cx ∧ ny ≤ cy ∧ Hid (xs.length = nx) ∧ Hid (ys.length = ny) ∧ Hid (acc.length + nx + ny = n + m) ∧ Hid (RAt w px xs) ∧ Hid (RAt w py ys) ∧
    Hid (acc ++ mergeR s xs ys = mergeR s a.recs b.recs) ∧ Hid (∀ r ∈ xs, r.data.length ≤ 65575) ∧ Hid (∀ r ∈ ys, r.data.length ≤ 65575) ∧ Hid (Blk wr o0 24 #[.int .i64 s, v]) ∧ Hid (TO wr (o0 + 1) v acc ds) ∧ Hid (Fr (Sb o0 (o0 + 1)) X1 wr)) (fun u7 u8 _ => sliceLen u7 + sliceLen u8)
  case atStart => exact ⟨_, _, _, _, _, _, a.recs, b.recs, [], _, [], rfl, rfl, hnm, HSP.out.1, HSQ.out.1, HN, HM, Lib.hid (by simp), HP, HQ, Lib.hid rfl, HDA, HDB, bo, Lib.hid (TO.nil X1 (o0 + 1)), Lib.hid (Fr.refl _ _)⟩
  case round =>
    clear bo HDA HDB
    obtain ⟨px, nx, cx, py, ny, cy, xs, ys, acc, v, ds, rfl, rfl, hxy, hxc, hyc, HNX, HNY, HAC, HX, HY, HEQ, HDX, HDY, bo, HT, HF⟩ := hrel
    have HB : Hid (Below w.heap.size w wr) := Lib.hid (HBX.out.trans (HF.out.below (fun k hk e => by have := HLO.out; have := HB0.out; rcases e with e | e <;> omega) HBX.out.size))
    have HS : Hid (o0 + 1 ≤ wr.heap.size) := Lib.hid (by have := sX.out; have := HF.out.size; omega)
    obtain ⟨ac, hac⟩ : ∃ k, acc.length = k := ⟨_, rfl⟩
    have HACL := Lib.hid hac
    have hacl : ac + nx + ny ≤ 4096 := by have := HAC.out; omega
    clear hac
    by_cases hmore : 0 < nx + ny
    · have x1 : decide ((0 : Int) < (nx : Int) + (ny : Int)) = true := decide_eq_true (by omega)
      have x1' : decide (0 < nx + ny) = true := decide_eq_true hmore
      have hcase : (ny = 0 ∧ 0 < nx) ∨ (0 < ny ∧ nx = 0) ∨ (0 < ny ∧ 0 < nx) := by omega
      rcases hcase with ⟨hy, hx⟩ | ⟨hy, hx⟩ | ⟨hy, hx⟩
      · subst hy
        obtain ⟨xr, xs', rfl⟩ : ∃ r l, xs = r :: l := by cases xs with
          | nil => exact absurd HNX.out (by simp; omega)
          | cons r l => exact ⟨r, l, rfl⟩
        obtain rfl := List.eq_nil_of_length_eq_zero HNY.out
        obtain ⟨g, o, rfl, hgl, ⟨pd, cd, hr5, hbd, hsl⟩, htl⟩ := HX.out.head
        have HM1 : Hid (mergeR s (xr :: xs') [] = cutV xr s :: mergeR s xs' []) := Lib.hid (mergeR_x fun y l e => by cases e)
        go_upto_region 8 with fail
        go_quiet (fail)
        have HDT := Lib.hid (hbd.later HB.out)
        have HTL := Lib.hid htl
        have HRG : Hid (wr.rangeAt g o (recC xr (.slice pd xr.data.length cd))) := Lib.hid fun j v hv => (HB.out.cell (by exact hgl)).trans (hr5 j v hv)
        have HGL := Lib.hid hgl
        have HDD1 := Lib.hid (HDX.out xr List.mem_cons_self)
        have HDD2 := Lib.hid (fun q (hq : q ∈ xs') => HDX.out q (List.mem_cons_of_mem _ hq))
        have HCU := Lib.hid (fun w' => cut_calls xr pd cd s hs0.out (Nat.le_trans HDD1.out (by omega)) w')
        obtain ⟨cdat, hcd⟩ : ∃ q, (cutV xr s).data = q := ⟨_, rfl⟩
        have HCD := Lib.hid hcd
        have HSL := Lib.hid hsl
        obtain ⟨tk, nd, ou, lg, dt⟩ := xr
        have HC2 : Hid (∀ w', BAt w' pd dt → Calls Tryz.prog 58 #[.agg #[.int .i64 tk, .int .i64 nd, .bool ou, .int .i64 lg, .slice pd dt.length cd], .int .i64 s] w' fun e w'' =>
          ∃ d, e = .returned (.agg #[.int .i64 tk, .int .i64 nd, .bool ou, .int .i64 lg, d]) ∧ w''.ownsRow w'.heap.size 5 1 d cdat.length (Lib.byteCells cdat) ∧ Below w'.heap.size w' w'') := Lib.hid (fun w' h2 => (HCU.out w' h2 HSL.out).mono fun e w'' ⟨d, h3, h4, h5⟩ => ⟨d, h3, by rw [← hcd]; exact h4, h5⟩)
        obtain ⟨dn, hdn⟩ : ∃ q, dt.length = q := ⟨_, rfl⟩
        simp only [recC, hdn] at HRG HC2
        clear hr5 hbd hsl htl hgl hcd hdn HCU x1 x1' hmore
        go_upto_region 9 with fail
        refine region_T (fun z => Blk z o0 24 #[.int .i64 s, v] ∧ z.rangeAt g o [.int .i64 tk, .int .i64 nd, .bool ou, .int .i64 lg, .slice pd dn cd]) (fun j => j == 11) (by kernel_rfl) ?_
        refine anyT_named (W0 := wr) (Below.drewN' (Below.refl _ _) _).drew fun Z hZ => ?_
        have hgw : g < wr.heap.size := Nat.lt_of_lt_of_le HGL.out HB.out.size
        have hS : Blk Z o0 24 #[.int .i64 s, v] ∧ Z.rangeAt g o [.int .i64 tk, .int .i64 nd, .bool ou, .int .i64 lg, .slice pd dn cd] := ⟨bo.out.later hZ bo.out.lt, fun j v hv => (hZ.cell (by exact hgw)).trans (HRG.out j v hv)⟩
        have HDT := Lib.hid (HDT.out.later hZ)
        have HT := Lib.hid (HT.out.later hZ)
        have HF := Lib.hid (HF.out.trans (Fr.of hZ))
        have HS := Lib.hid (Nat.le_trans HS.out hZ.size)
        have HGZ : Hid (g < Z.heap.size) := Lib.hid (Nat.lt_of_lt_of_le hgw hZ.size)
        clear hZ
        refine anyT_take 0 (.pointer (some ⟨o0, 1, none⟩)) rfl (by kernel_rfl) (by kernel_rfl) (by kernel_rfl) (by kernel_rfl) (fun _ _ _ h => h) rfl (fun w hw => ?_) hS ?_
        · go_simp; try rfl
        simp only [Act.put, List.getElem_toArray, List.getElem_cons_succ, List.getElem_cons_zero, List.setIfInBounds_toArray, List.set_cons_zero, List.set_cons_succ]
        refine anyT_take 1 v rfl (by kernel_rfl) (by kernel_rfl) (by kernel_rfl) (by kernel_rfl) (fun _ _ _ h => h) rfl (fun w hw => ?_) hS ?_
        · have c1 : w.cell? ⟨o0, 1, none⟩ = some v := hw.1.cell _
          go_simp; try rfl
        simp only [Act.put, List.getElem_toArray, List.getElem_cons_succ, List.getElem_cons_zero, List.setIfInBounds_toArray, List.set_cons_zero, List.set_cons_succ]
        refine anyT_take 2 (.slice (some ⟨g, o, none⟩) nx cx) rfl (by kernel_rfl) (by kernel_rfl) (by kernel_rfl) (by kernel_rfl) (fun _ _ _ h => h) rfl (fun w hw => ?_) hS ?_
        · go_simp; try rfl
        simp only [Act.put, List.getElem_toArray, List.getElem_cons_succ, List.getElem_cons_zero, List.setIfInBounds_toArray, List.set_cons_zero, List.set_cons_succ]
        refine anyT_take 3 (.pointer (some ⟨g, o, none⟩)) rfl (by kernel_rfl) (by kernel_rfl) (by kernel_rfl) (by kernel_rfl) (fun _ _ _ h => h) rfl (fun w hw => ?_) hS ?_
        · go_simp; try rfl
        simp only [Act.put, List.getElem_toArray, List.getElem_cons_succ, List.getElem_cons_zero, List.setIfInBounds_toArray, List.set_cons_zero, List.set_cons_succ]
        refine anyT_take 4 (.agg #[.int .i64 tk, .int .i64 nd, .bool ou, .int .i64 lg, .slice pd dn cd]) rfl (by kernel_rfl) (by kernel_rfl) (by kernel_rfl) (by kernel_rfl) (fun _ _ _ h => h) rfl (fun w hw => ?_) hS ?_
        · have c0 : w.cell? ⟨g, o, none⟩ = some (.int .i64 tk) := hw.2 0 _ rfl
          have c1 : w.cell? ⟨g, o + 1, none⟩ = some (.int .i64 nd) := hw.2 1 _ rfl
          have c2 : w.cell? ⟨g, o + 2, none⟩ = some (.bool ou) := hw.2 2 _ rfl
          have c3 : w.cell? ⟨g, o + 3, none⟩ = some (.int .i64 lg) := hw.2 3 _ rfl
          have c4 : w.cell? ⟨g, o + 4, none⟩ = some (.slice pd dn cd) := hw.2 4 _ rfl
          go_simp; try rfl
        simp only [Act.put, List.getElem_toArray, List.getElem_cons_succ, List.getElem_cons_zero, List.setIfInBounds_toArray, List.set_cons_zero, List.set_cons_succ]
        refine anyT_take 5 (.pointer (some ⟨o0, 0, none⟩)) rfl (by kernel_rfl) (by kernel_rfl) (by kernel_rfl) (by kernel_rfl) (fun _ _ _ h => h) rfl (fun w hw => ?_) hS ?_
        · go_simp; try rfl
        simp only [Act.put, List.getElem_toArray, List.getElem_cons_succ, List.getElem_cons_zero, List.setIfInBounds_toArray, List.set_cons_zero, List.set_cons_succ]
        refine anyT_take 6 (.int .i64 s) rfl (by kernel_rfl) (by kernel_rfl) (by kernel_rfl) (by kernel_rfl) (fun _ _ _ h => h) rfl (fun w hw => ?_) hS ?_
        · have c1 : w.cell? ⟨o0, 0, none⟩ = some (.int .i64 s) := hw.1.cell _
          go_simp; try rfl
        simp only [Act.put, List.getElem_toArray, List.getElem_cons_succ, List.getElem_cons_zero, List.setIfInBounds_toArray, List.set_cons_zero, List.set_cons_succ]
        refine anyT_step 7 (by kernel_rfl) rfl rfl ?_
        refine wp_enterG 58 #[.agg #[.int .i64 tk, .int .i64 nd, .bool ou, .int .i64 lg, .slice pd dn cd], .int .i64 s] (by first | kernel_rfl | go_simp) ?_
        refine (HC2.out Z HDT.out).mono ?_
        rintro e Z1 ⟨d', rfl, hd1, hB1⟩
        obtain ⟨p1, c1', rfl, _, _, _⟩ := own_bytes hd1
        have hS1 : Blk Z1 o0 24 #[.int .i64 s, v] ∧ Z1.rangeAt g o [.int .i64 tk, .int .i64 nd, .bool ou, .int .i64 lg, .slice pd dn cd] := ⟨hS.1.later hB1 hS.1.lt, fun j v hv => (hB1.cell (by exact HGZ.out)).trans (hS.2 j v hv)⟩
        have hgz1 : g < Z1.heap.size := Nat.lt_of_lt_of_le HGZ.out hB1.size
        refine ⟨_, rfl, .inr hS1, ?_⟩
        simp only [Act.put, List.getElem_toArray, List.getElem_cons_succ, List.getElem_cons_zero, List.setIfInBounds_toArray, List.set_cons_zero, List.set_cons_succ]
        refine anyT_step 8 (by kernel_rfl) rfl rfl ?_
        refine wp_slice_rec _ rfl tk nd lg ou p1 cdat.length c1' rfl ?_
        have hA : Below Z1.heap.size Z1 (Z1.alloc (.cells #[.int .i64 tk, .int .i64 nd, .bool ou, .int .i64 lg, .slice p1 cdat.length c1'] 48)) := (Below.refl _ _).alloc (Nat.le_refl _) _
        refine ⟨.inr ⟨hS1.1.alloc _, fun j v hv => (hA.cell (by exact hgz1)).trans (hS1.2 j v hv)⟩, ?_⟩
        simp only [Act.put, List.getElem_toArray, List.getElem_cons_succ, List.getElem_cons_zero, List.setIfInBounds_toArray, List.set_cons_zero, List.set_cons_succ]
        have HOW : Hid ((Z1.alloc (.cells #[.int .i64 tk, .int .i64 nd, .bool ou, .int .i64 lg, .slice p1 cdat.length c1'] 48)).ownsRow (o0 + 1) 48 5 v ac (cellsR acc ds)) := Lib.hid (by have := (HT.out.later hB1).own; rw [HACL.out] at this; exact this.alloc _)
        have HSA : Hid (o0 + 1 ≤ (Z1.alloc (.cells #[.int .i64 tk, .int .i64 nd, .bool ou, .int .i64 lg, .slice p1 cdat.length c1'] 48)).heap.size) := Lib.hid (by have := HS.out; have := hB1.size; simp; omega)
        refine anyT_step 9 (by kernel_rfl) rfl rfl ?_
        refine wp_append_two _ _ 22 rfl 48 i0 _ 5 56 Tryz.underlying22 hi hz0 hz1 hz2 (by rfl) (by omega) (o0 + 1) v ac _ rfl HOW.out ⟨Z1.heap.size, 0, none⟩ 1 1 (recC (cutV ⟨tk, nd, ou, lg, dt⟩ s) (.slice p1 cdat.length c1')) rfl rfl (news_of _ _ _) (recC_one _ _ _ _) (by omega) (by unfold maxLen; omega) (by omega) HSA.out ?_
        intro g3 cap Z3 hown hgr
        have b5 := HT.out.mid hB1 (show o0 < o0 + 1 by omega) _ hgr hS.1
        have hS3 : Blk Z3 o0 24 #[.int .i64 s, v] ∧ Z3.rangeAt g o [.int .i64 tk, .int .i64 nd, .bool ou, .int .i64 lg, .slice pd dn cd] := ⟨b5, (fr_row hgr).range (fun j v hv => (hA.cell (by exact hgz1)).trans (hS1.2 j v hv)) (fun e => by have h1 := own_ge HT.out.own _ e; have h2 := HGL.out; have h3 := HB0.out; have h4 := HLO.out; omega)⟩
        refine ⟨.inr hS3, ?_⟩
        simp only [Act.put, List.getElem_toArray, List.getElem_cons_succ, List.getElem_cons_zero, List.setIfInBounds_toArray, List.set_cons_zero, List.set_cons_succ]
        refine anyT_take 10 (.pointer (some ⟨o0, 1, none⟩)) rfl (by kernel_rfl) (by kernel_rfl) (by kernel_rfl) (by kernel_rfl) (fun _ _ _ h => h) rfl (fun w hw => ?_) hS3 ?_
        · go_simp; try rfl
        simp only [Act.put, List.getElem_toArray, List.getElem_cons_succ, List.getElem_cons_zero, List.setIfInBounds_toArray, List.set_cons_zero, List.set_cons_succ]
        refine anyT_step 11 (by kernel_rfl) rfl rfl ?_
        refine wp_store_slice _ _ rfl o0 1 _ _ _ rfl rfl v (b5.cell _) (b5.frozen _) ?_
        refine ⟨.inl rfl, ?_⟩
        refine anyT_done (by kernel_rfl) ?_
        obtain ⟨q1, q2, q3⟩ := HT.out.step HACL.out hB1 HS.out (show o0 < o0 + 1 by omega) (cutV ⟨tk, nd, ou, lg, dt⟩ s) _ (by rw [HCD.out]; exact hd1) _ hown hgr
        have bo2 := q3 _ _ hS.1
        have HF := Lib.hid (HF.out.trans q2.out)
        clear hown hgr b5 hS hS1 hS3 q2 q3 hd1 hB1 HOW HSA hA hgz1 hgw
        generalize Z3.setCell ⟨o0, 1, none⟩ (.slice (some ⟨g3, 0, none⟩) (ac + 1) cap) = Z4 at q1 bo2 HF ⊢
        simp only [Act.put, List.getElem_toArray, List.getElem_cons_succ, List.getElem_cons_zero, List.setIfInBounds_toArray, List.set_cons_zero, List.set_cons_succ]
        have HTL2 : Hid (RAt w (if cx = 1 then some ⟨g, o, none⟩ else some ⟨g, o + 5, none⟩) xs') := Lib.hid (by
          by_cases h1 : cx = 1
          · have := HNX.out
            obtain rfl : xs' = [] := List.eq_nil_of_length_eq_zero (by simp only [List.length_cons] at this; omega)
            exact .inl rfl
          · rw [if_neg h1]; exact HTL.out)
        have HL2 : Hid (xs'.length = nx - 1) := Lib.hid (by have := HNX.out; simp only [List.length_cons] at this; omega)
        have HEQ2 : Hid ((acc ++ [cutV ⟨tk, nd, ou, lg, dt⟩ s]) ++ (mergeR s xs' []) = mergeR s a.recs b.recs) := Lib.hid (by rw [← HEQ.out, HM1.out]; simp)
        have HAC2 : Hid ((acc ++ [cutV ⟨tk, nd, ou, lg, dt⟩ s]).length + (nx - 1) + 0 = n + m) := Lib.hid (by have := HAC.out; simp only [List.length_append, List.length_singleton]; omega)
        go_wp2
        exact ⟨⟨_, nx - 1, cx - 1, _, 0, cy, xs', [], acc ++ [cutV ⟨tk, nd, ou, lg, dt⟩ s], _, _, rfl, rfl, by omega, by omega, by omega, HL2, HNY, HAC2, HTL2, HY, HEQ2, HDD2, HDY, bo2, q1, HF⟩, by simp only [sliceLen]; omega⟩
      · subst hx
        obtain rfl := List.eq_nil_of_length_eq_zero HNX.out
        obtain ⟨yr, ys', rfl⟩ : ∃ r l, ys = r :: l := by cases ys with
          | nil => exact absurd HNY.out (by simp; omega)
          | cons r l => exact ⟨r, l, rfl⟩
        obtain ⟨g, o, rfl, hgl, ⟨pd, cd, hr5, hbd, hsl⟩, htl⟩ := HY.out.head
        have HM1 : Hid (mergeR s [] (yr :: ys') = cutV yr s :: mergeR s [] ys') := Lib.hid (mergeR_y fun y l e => by cases e)
        have y0 : ((ny : Int) == 0) = false := beq_eq_false_iff_ne.2 (by omega)
        have y0' : (ny == 0) = false := beq_eq_false_iff_ne.2 (by omega)
        go_upto_region 8 with fail
        go_quiet (fail)
        have HDT := Lib.hid (hbd.later HB.out)
        have HTL := Lib.hid htl
        have HRG : Hid (wr.rangeAt g o (recC yr (.slice pd yr.data.length cd))) := Lib.hid fun j v hv => (HB.out.cell (by exact hgl)).trans (hr5 j v hv)
        have HGL := Lib.hid hgl
        have HDD1 := Lib.hid (HDY.out yr List.mem_cons_self)
        have HDD2 := Lib.hid (fun q (hq : q ∈ ys') => HDY.out q (List.mem_cons_of_mem _ hq))
        have HCU := Lib.hid (fun w' => cut_calls yr pd cd s hs0.out (Nat.le_trans HDD1.out (by omega)) w')
        obtain ⟨cdat, hcd⟩ : ∃ q, (cutV yr s).data = q := ⟨_, rfl⟩
        have HCD := Lib.hid hcd
        have HSL := Lib.hid hsl
        obtain ⟨tk, nd, ou, lg, dt⟩ := yr
        have HC2 : Hid (∀ w', BAt w' pd dt → Calls Tryz.prog 58 #[.agg #[.int .i64 tk, .int .i64 nd, .bool ou, .int .i64 lg, .slice pd dt.length cd], .int .i64 s] w' fun e w'' =>
          ∃ d, e = .returned (.agg #[.int .i64 tk, .int .i64 nd, .bool ou, .int .i64 lg, d]) ∧ w''.ownsRow w'.heap.size 5 1 d cdat.length (Lib.byteCells cdat) ∧ Below w'.heap.size w' w'') := Lib.hid (fun w' h2 => (HCU.out w' h2 HSL.out).mono fun e w'' ⟨d, h3, h4, h5⟩ => ⟨d, h3, by rw [← hcd]; exact h4, h5⟩)
        obtain ⟨dn, hdn⟩ : ∃ q, dt.length = q := ⟨_, rfl⟩
        simp only [recC, hdn] at HRG HC2
        clear hr5 hbd hsl htl hgl hcd hdn HCU x1 x1' hmore
        go_upto_region 11 with fail
        refine region_T (fun z => Blk z o0 24 #[.int .i64 s, v] ∧ z.rangeAt g o [.int .i64 tk, .int .i64 nd, .bool ou, .int .i64 lg, .slice pd dn cd]) (fun j => j == 11) (by kernel_rfl) ?_
        refine anyT_named (W0 := wr) (Below.drewN' (Below.refl _ _) _).drew fun Z hZ => ?_
        have hgw : g < wr.heap.size := Nat.lt_of_lt_of_le HGL.out HB.out.size
        have hS : Blk Z o0 24 #[.int .i64 s, v] ∧ Z.rangeAt g o [.int .i64 tk, .int .i64 nd, .bool ou, .int .i64 lg, .slice pd dn cd] := ⟨bo.out.later hZ bo.out.lt, fun j v hv => (hZ.cell (by exact hgw)).trans (HRG.out j v hv)⟩
        have HDT := Lib.hid (HDT.out.later hZ)
        have HT := Lib.hid (HT.out.later hZ)
        have HF := Lib.hid (HF.out.trans (Fr.of hZ))
        have HS := Lib.hid (Nat.le_trans HS.out hZ.size)
        have HGZ : Hid (g < Z.heap.size) := Lib.hid (Nat.lt_of_lt_of_le hgw hZ.size)
        clear hZ
        refine anyT_take 0 (.pointer (some ⟨o0, 1, none⟩)) rfl (by kernel_rfl) (by kernel_rfl) (by kernel_rfl) (by kernel_rfl) (fun _ _ _ h => h) rfl (fun w hw => ?_) hS ?_
        · go_simp; try rfl
        simp only [Act.put, List.getElem_toArray, List.getElem_cons_succ, List.getElem_cons_zero, List.setIfInBounds_toArray, List.set_cons_zero, List.set_cons_succ]
        refine anyT_take 1 v rfl (by kernel_rfl) (by kernel_rfl) (by kernel_rfl) (by kernel_rfl) (fun _ _ _ h => h) rfl (fun w hw => ?_) hS ?_
        · have c1 : w.cell? ⟨o0, 1, none⟩ = some v := hw.1.cell _
          go_simp; try rfl
        simp only [Act.put, List.getElem_toArray, List.getElem_cons_succ, List.getElem_cons_zero, List.setIfInBounds_toArray, List.set_cons_zero, List.set_cons_succ]
        refine anyT_take 2 (.slice (some ⟨g, o, none⟩) ny cy) rfl (by kernel_rfl) (by kernel_rfl) (by kernel_rfl) (by kernel_rfl) (fun _ _ _ h => h) rfl (fun w hw => ?_) hS ?_
        · go_simp; try rfl
        simp only [Act.put, List.getElem_toArray, List.getElem_cons_succ, List.getElem_cons_zero, List.setIfInBounds_toArray, List.set_cons_zero, List.set_cons_succ]
        refine anyT_take 3 (.pointer (some ⟨g, o, none⟩)) rfl (by kernel_rfl) (by kernel_rfl) (by kernel_rfl) (by kernel_rfl) (fun _ _ _ h => h) rfl (fun w hw => ?_) hS ?_
        · go_simp; try rfl
        simp only [Act.put, List.getElem_toArray, List.getElem_cons_succ, List.getElem_cons_zero, List.setIfInBounds_toArray, List.set_cons_zero, List.set_cons_succ]
        refine anyT_take 4 (.agg #[.int .i64 tk, .int .i64 nd, .bool ou, .int .i64 lg, .slice pd dn cd]) rfl (by kernel_rfl) (by kernel_rfl) (by kernel_rfl) (by kernel_rfl) (fun _ _ _ h => h) rfl (fun w hw => ?_) hS ?_
        · have c0 : w.cell? ⟨g, o, none⟩ = some (.int .i64 tk) := hw.2 0 _ rfl
          have c1 : w.cell? ⟨g, o + 1, none⟩ = some (.int .i64 nd) := hw.2 1 _ rfl
          have c2 : w.cell? ⟨g, o + 2, none⟩ = some (.bool ou) := hw.2 2 _ rfl
          have c3 : w.cell? ⟨g, o + 3, none⟩ = some (.int .i64 lg) := hw.2 3 _ rfl
          have c4 : w.cell? ⟨g, o + 4, none⟩ = some (.slice pd dn cd) := hw.2 4 _ rfl
          go_simp; try rfl
        simp only [Act.put, List.getElem_toArray, List.getElem_cons_succ, List.getElem_cons_zero, List.setIfInBounds_toArray, List.set_cons_zero, List.set_cons_succ]
        refine anyT_take 5 (.pointer (some ⟨o0, 0, none⟩)) rfl (by kernel_rfl) (by kernel_rfl) (by kernel_rfl) (by kernel_rfl) (fun _ _ _ h => h) rfl (fun w hw => ?_) hS ?_
        · go_simp; try rfl
        simp only [Act.put, List.getElem_toArray, List.getElem_cons_succ, List.getElem_cons_zero, List.setIfInBounds_toArray, List.set_cons_zero, List.set_cons_succ]
        refine anyT_take 6 (.int .i64 s) rfl (by kernel_rfl) (by kernel_rfl) (by kernel_rfl) (by kernel_rfl) (fun _ _ _ h => h) rfl (fun w hw => ?_) hS ?_
        · have c1 : w.cell? ⟨o0, 0, none⟩ = some (.int .i64 s) := hw.1.cell _
          go_simp; try rfl
        simp only [Act.put, List.getElem_toArray, List.getElem_cons_succ, List.getElem_cons_zero, List.setIfInBounds_toArray, List.set_cons_zero, List.set_cons_succ]
        refine anyT_step 7 (by kernel_rfl) rfl rfl ?_
        refine wp_enterG 58 #[.agg #[.int .i64 tk, .int .i64 nd, .bool ou, .int .i64 lg, .slice pd dn cd], .int .i64 s] (by first | kernel_rfl | go_simp) ?_
        refine (HC2.out Z HDT.out).mono ?_
        rintro e Z1 ⟨d', rfl, hd1, hB1⟩
        obtain ⟨p1, c1', rfl, _, _, _⟩ := own_bytes hd1
        have hS1 : Blk Z1 o0 24 #[.int .i64 s, v] ∧ Z1.rangeAt g o [.int .i64 tk, .int .i64 nd, .bool ou, .int .i64 lg, .slice pd dn cd] := ⟨hS.1.later hB1 hS.1.lt, fun j v hv => (hB1.cell (by exact HGZ.out)).trans (hS.2 j v hv)⟩
        have hgz1 : g < Z1.heap.size := Nat.lt_of_lt_of_le HGZ.out hB1.size
        refine ⟨_, rfl, .inr hS1, ?_⟩
        simp only [Act.put, List.getElem_toArray, List.getElem_cons_succ, List.getElem_cons_zero, List.setIfInBounds_toArray, List.set_cons_zero, List.set_cons_succ]
        refine anyT_step 8 (by kernel_rfl) rfl rfl ?_
        refine wp_slice_rec _ rfl tk nd lg ou p1 cdat.length c1' rfl ?_
        have hA : Below Z1.heap.size Z1 (Z1.alloc (.cells #[.int .i64 tk, .int .i64 nd, .bool ou, .int .i64 lg, .slice p1 cdat.length c1'] 48)) := (Below.refl _ _).alloc (Nat.le_refl _) _
        refine ⟨.inr ⟨hS1.1.alloc _, fun j v hv => (hA.cell (by exact hgz1)).trans (hS1.2 j v hv)⟩, ?_⟩
        simp only [Act.put, List.getElem_toArray, List.getElem_cons_succ, List.getElem_cons_zero, List.setIfInBounds_toArray, List.set_cons_zero, List.set_cons_succ]
        have HOW : Hid ((Z1.alloc (.cells #[.int .i64 tk, .int .i64 nd, .bool ou, .int .i64 lg, .slice p1 cdat.length c1'] 48)).ownsRow (o0 + 1) 48 5 v ac (cellsR acc ds)) := Lib.hid (by have := (HT.out.later hB1).own; rw [HACL.out] at this; exact this.alloc _)
        have HSA : Hid (o0 + 1 ≤ (Z1.alloc (.cells #[.int .i64 tk, .int .i64 nd, .bool ou, .int .i64 lg, .slice p1 cdat.length c1'] 48)).heap.size) := Lib.hid (by have := HS.out; have := hB1.size; simp; omega)
        refine anyT_step 9 (by kernel_rfl) rfl rfl ?_
        refine wp_append_two _ _ 22 rfl 48 i0 _ 5 56 Tryz.underlying22 hi hz0 hz1 hz2 (by rfl) (by omega) (o0 + 1) v ac _ rfl HOW.out ⟨Z1.heap.size, 0, none⟩ 1 1 (recC (cutV ⟨tk, nd, ou, lg, dt⟩ s) (.slice p1 cdat.length c1')) rfl rfl (news_of _ _ _) (recC_one _ _ _ _) (by omega) (by unfold maxLen; omega) (by omega) HSA.out ?_
        intro g3 cap Z3 hown hgr
        have b5 := HT.out.mid hB1 (show o0 < o0 + 1 by omega) _ hgr hS.1
        have hS3 : Blk Z3 o0 24 #[.int .i64 s, v] ∧ Z3.rangeAt g o [.int .i64 tk, .int .i64 nd, .bool ou, .int .i64 lg, .slice pd dn cd] := ⟨b5, (fr_row hgr).range (fun j v hv => (hA.cell (by exact hgz1)).trans (hS1.2 j v hv)) (fun e => by have h1 := own_ge HT.out.own _ e; have h2 := HGL.out; have h3 := HB0.out; have h4 := HLO.out; omega)⟩
        refine ⟨.inr hS3, ?_⟩
        simp only [Act.put, List.getElem_toArray, List.getElem_cons_succ, List.getElem_cons_zero, List.setIfInBounds_toArray, List.set_cons_zero, List.set_cons_succ]
        refine anyT_take 10 (.pointer (some ⟨o0, 1, none⟩)) rfl (by kernel_rfl) (by kernel_rfl) (by kernel_rfl) (by kernel_rfl) (fun _ _ _ h => h) rfl (fun w hw => ?_) hS3 ?_
        · go_simp; try rfl
        simp only [Act.put, List.getElem_toArray, List.getElem_cons_succ, List.getElem_cons_zero, List.setIfInBounds_toArray, List.set_cons_zero, List.set_cons_succ]
        refine anyT_step 11 (by kernel_rfl) rfl rfl ?_
        refine wp_store_slice _ _ rfl o0 1 _ _ _ rfl rfl v (b5.cell _) (b5.frozen _) ?_
        refine ⟨.inl rfl, ?_⟩
        refine anyT_done (by kernel_rfl) ?_
        obtain ⟨q1, q2, q3⟩ := HT.out.step HACL.out hB1 HS.out (show o0 < o0 + 1 by omega) (cutV ⟨tk, nd, ou, lg, dt⟩ s) _ (by rw [HCD.out]; exact hd1) _ hown hgr
        have bo2 := q3 _ _ hS.1
        have HF := Lib.hid (HF.out.trans q2.out)
        clear hown hgr b5 hS hS1 hS3 q2 q3 hd1 hB1 HOW HSA hA hgz1 hgw
        generalize Z3.setCell ⟨o0, 1, none⟩ (.slice (some ⟨g3, 0, none⟩) (ac + 1) cap) = Z4 at q1 bo2 HF ⊢
        simp only [Act.put, List.getElem_toArray, List.getElem_cons_succ, List.getElem_cons_zero, List.setIfInBounds_toArray, List.set_cons_zero, List.set_cons_succ]
        have HTL2 : Hid (RAt w (if cy = 1 then some ⟨g, o, none⟩ else some ⟨g, o + 5, none⟩) ys') := Lib.hid (by
          by_cases h1 : cy = 1
          · have := HNY.out
            obtain rfl : ys' = [] := List.eq_nil_of_length_eq_zero (by simp only [List.length_cons] at this; omega)
            exact .inl rfl
          · rw [if_neg h1]; exact HTL.out)
        have HL2 : Hid (ys'.length = ny - 1) := Lib.hid (by have := HNY.out; simp only [List.length_cons] at this; omega)
        have HEQ2 : Hid ((acc ++ [cutV ⟨tk, nd, ou, lg, dt⟩ s]) ++ (mergeR s [] ys') = mergeR s a.recs b.recs) := Lib.hid (by rw [← HEQ.out, HM1.out]; simp)
        have HAC2 : Hid ((acc ++ [cutV ⟨tk, nd, ou, lg, dt⟩ s]).length + 0 + (ny - 1) = n + m) := Lib.hid (by have := HAC.out; simp only [List.length_append, List.length_singleton]; omega)
        go_wp2
        exact ⟨⟨_, 0, cx, _, ny - 1, cy - 1, [], ys', acc ++ [cutV ⟨tk, nd, ou, lg, dt⟩ s], _, _, rfl, rfl, by omega, by omega, by omega, HNX, HL2, HAC2, HX, HTL2, HEQ2, HDX, HDD2, bo2, q1, HF⟩, by simp only [sliceLen]; omega⟩
      · have y0 : ((ny : Int) == 0) = false := beq_eq_false_iff_ne.2 (by omega)
        have y0' : (ny == 0) = false := beq_eq_false_iff_ne.2 (by omega)
        have z0 : decide ((0 : Int) < (nx : Int)) = true := decide_eq_true (by omega)
        have z0' : decide (0 < nx) = true := decide_eq_true hx
        obtain ⟨xr, xs', rfl⟩ : ∃ r l, xs = r :: l := by cases xs with
          | nil => exact absurd HNX.out (by simp; omega)
          | cons r l => exact ⟨r, l, rfl⟩
        obtain ⟨yr, ys', rfl⟩ : ∃ r l, ys = r :: l := by cases ys with
          | nil => exact absurd HNY.out (by simp; omega)
          | cons r l => exact ⟨r, l, rfl⟩
        by_cases hle : xr.tk ≤ yr.tk
        · have HM1 : Hid (mergeR s (xr :: xs') (yr :: ys') = cutV xr s :: mergeR s xs' (yr :: ys')) := Lib.hid (mergeR_x fun y l e => by injection e with e1 _; rw [← e1]; exact hle)
          obtain ⟨g2, o2, rfl, hgl2, ⟨pd2, cd2, hr52, hbd2, hsl2⟩, htl2⟩ := HY.out.head
          obtain ⟨g, o, rfl, hgl, ⟨pd, cd, hr5, hbd, hsl⟩, htl⟩ := HX.out.head
          have d0 : wr.cell? ⟨g, o, none⟩ = some (.int .i64 xr.tk) := (HB.out.cell (by exact hgl)).trans (hr5 0 _ rfl)
          have k0 : wr.cell? ⟨g2, o2, none⟩ = some (.int .i64 yr.tk) := (HB.out.cell (by exact hgl2)).trans (hr52 0 _ rfl)
          have e1 : decide (xr.tk ≤ yr.tk) = true := decide_eq_true hle
          go_upto_region 8 with fail
          go_quiet (fail)
          clear d0 k0 hgl2 hr52 hbd2 hsl2 htl2 hle e1
          have HDT := Lib.hid (hbd.later HB.out)
          have HTL := Lib.hid htl
          have HRG : Hid (wr.rangeAt g o (recC xr (.slice pd xr.data.length cd))) := Lib.hid fun j v hv => (HB.out.cell (by exact hgl)).trans (hr5 j v hv)
          have HGL := Lib.hid hgl
          have HDD1 := Lib.hid (HDX.out xr List.mem_cons_self)
          have HDD2 := Lib.hid (fun q (hq : q ∈ xs') => HDX.out q (List.mem_cons_of_mem _ hq))
          have HCU := Lib.hid (fun w' => cut_calls xr pd cd s hs0.out (Nat.le_trans HDD1.out (by omega)) w')
          obtain ⟨cdat, hcd⟩ : ∃ q, (cutV xr s).data = q := ⟨_, rfl⟩
          have HCD := Lib.hid hcd
          have HSL := Lib.hid hsl
          obtain ⟨tk, nd, ou, lg, dt⟩ := xr
          have HC2 : Hid (∀ w', BAt w' pd dt → Calls Tryz.prog 58 #[.agg #[.int .i64 tk, .int .i64 nd, .bool ou, .int .i64 lg, .slice pd dt.length cd], .int .i64 s] w' fun e w'' =>
            ∃ d, e = .returned (.agg #[.int .i64 tk, .int .i64 nd, .bool ou, .int .i64 lg, d]) ∧ w''.ownsRow w'.heap.size 5 1 d cdat.length (Lib.byteCells cdat) ∧ Below w'.heap.size w' w'') := Lib.hid (fun w' h2 => (HCU.out w' h2 HSL.out).mono fun e w'' ⟨d, h3, h4, h5⟩ => ⟨d, h3, by rw [← hcd]; exact h4, h5⟩)
          obtain ⟨dn, hdn⟩ : ∃ q, dt.length = q := ⟨_, rfl⟩
          simp only [recC, hdn] at HRG HC2
          clear hr5 hbd hsl htl hgl hcd hdn HCU x1 x1' hmore
          go_upto_region 9 with fail
          refine region_T (fun z => Blk z o0 24 #[.int .i64 s, v] ∧ z.rangeAt g o [.int .i64 tk, .int .i64 nd, .bool ou, .int .i64 lg, .slice pd dn cd]) (fun j => j == 11) (by kernel_rfl) ?_
          refine anyT_named (W0 := wr) (Below.drewN' (Below.refl _ _) _).drew fun Z hZ => ?_
          have hgw : g < wr.heap.size := Nat.lt_of_lt_of_le HGL.out HB.out.size
          have hS : Blk Z o0 24 #[.int .i64 s, v] ∧ Z.rangeAt g o [.int .i64 tk, .int .i64 nd, .bool ou, .int .i64 lg, .slice pd dn cd] := ⟨bo.out.later hZ bo.out.lt, fun j v hv => (hZ.cell (by exact hgw)).trans (HRG.out j v hv)⟩
          have HDT := Lib.hid (HDT.out.later hZ)
          have HT := Lib.hid (HT.out.later hZ)
          have HF := Lib.hid (HF.out.trans (Fr.of hZ))
          have HS := Lib.hid (Nat.le_trans HS.out hZ.size)
          have HGZ : Hid (g < Z.heap.size) := Lib.hid (Nat.lt_of_lt_of_le hgw hZ.size)
          clear hZ
          refine anyT_take 0 (.pointer (some ⟨o0, 1, none⟩)) rfl (by kernel_rfl) (by kernel_rfl) (by kernel_rfl) (by kernel_rfl) (fun _ _ _ h => h) rfl (fun w hw => ?_) hS ?_
          · go_simp; try rfl
          simp only [Act.put, List.getElem_toArray, List.getElem_cons_succ, List.getElem_cons_zero, List.setIfInBounds_toArray, List.set_cons_zero, List.set_cons_succ]
          refine anyT_take 1 v rfl (by kernel_rfl) (by kernel_rfl) (by kernel_rfl) (by kernel_rfl) (fun _ _ _ h => h) rfl (fun w hw => ?_) hS ?_
          · have c1 : w.cell? ⟨o0, 1, none⟩ = some v := hw.1.cell _
            go_simp; try rfl
          simp only [Act.put, List.getElem_toArray, List.getElem_cons_succ, List.getElem_cons_zero, List.setIfInBounds_toArray, List.set_cons_zero, List.set_cons_succ]
          refine anyT_take 2 (.slice (some ⟨g, o, none⟩) nx cx) rfl (by kernel_rfl) (by kernel_rfl) (by kernel_rfl) (by kernel_rfl) (fun _ _ _ h => h) rfl (fun w hw => ?_) hS ?_
          · go_simp; try rfl
          simp only [Act.put, List.getElem_toArray, List.getElem_cons_succ, List.getElem_cons_zero, List.setIfInBounds_toArray, List.set_cons_zero, List.set_cons_succ]
          refine anyT_take 3 (.pointer (some ⟨g, o, none⟩)) rfl (by kernel_rfl) (by kernel_rfl) (by kernel_rfl) (by kernel_rfl) (fun _ _ _ h => h) rfl (fun w hw => ?_) hS ?_
          · go_simp; try rfl
          simp only [Act.put, List.getElem_toArray, List.getElem_cons_succ, List.getElem_cons_zero, List.setIfInBounds_toArray, List.set_cons_zero, List.set_cons_succ]
          refine anyT_take 4 (.agg #[.int .i64 tk, .int .i64 nd, .bool ou, .int .i64 lg, .slice pd dn cd]) rfl (by kernel_rfl) (by kernel_rfl) (by kernel_rfl) (by kernel_rfl) (fun _ _ _ h => h) rfl (fun w hw => ?_) hS ?_
          · have c0 : w.cell? ⟨g, o, none⟩ = some (.int .i64 tk) := hw.2 0 _ rfl
            have c1 : w.cell? ⟨g, o + 1, none⟩ = some (.int .i64 nd) := hw.2 1 _ rfl
            have c2 : w.cell? ⟨g, o + 2, none⟩ = some (.bool ou) := hw.2 2 _ rfl
            have c3 : w.cell? ⟨g, o + 3, none⟩ = some (.int .i64 lg) := hw.2 3 _ rfl
            have c4 : w.cell? ⟨g, o + 4, none⟩ = some (.slice pd dn cd) := hw.2 4 _ rfl
            go_simp; try rfl
          simp only [Act.put, List.getElem_toArray, List.getElem_cons_succ, List.getElem_cons_zero, List.setIfInBounds_toArray, List.set_cons_zero, List.set_cons_succ]
          refine anyT_take 5 (.pointer (some ⟨o0, 0, none⟩)) rfl (by kernel_rfl) (by kernel_rfl) (by kernel_rfl) (by kernel_rfl) (fun _ _ _ h => h) rfl (fun w hw => ?_) hS ?_
          · go_simp; try rfl
          simp only [Act.put, List.getElem_toArray, List.getElem_cons_succ, List.getElem_cons_zero, List.setIfInBounds_toArray, List.set_cons_zero, List.set_cons_succ]
          refine anyT_take 6 (.int .i64 s) rfl (by kernel_rfl) (by kernel_rfl) (by kernel_rfl) (by kernel_rfl) (fun _ _ _ h => h) rfl (fun w hw => ?_) hS ?_
          · have c1 : w.cell? ⟨o0, 0, none⟩ = some (.int .i64 s) := hw.1.cell _
            go_simp; try rfl
          simp only [Act.put, List.getElem_toArray, List.getElem_cons_succ, List.getElem_cons_zero, List.setIfInBounds_toArray, List.set_cons_zero, List.set_cons_succ]
          refine anyT_step 7 (by kernel_rfl) rfl rfl ?_
          refine wp_enterG 58 #[.agg #[.int .i64 tk, .int .i64 nd, .bool ou, .int .i64 lg, .slice pd dn cd], .int .i64 s] (by first | kernel_rfl | go_simp) ?_
          refine (HC2.out Z HDT.out).mono ?_
          rintro e Z1 ⟨d', rfl, hd1, hB1⟩
          obtain ⟨p1, c1', rfl, _, _, _⟩ := own_bytes hd1
          have hS1 : Blk Z1 o0 24 #[.int .i64 s, v] ∧ Z1.rangeAt g o [.int .i64 tk, .int .i64 nd, .bool ou, .int .i64 lg, .slice pd dn cd] := ⟨hS.1.later hB1 hS.1.lt, fun j v hv => (hB1.cell (by exact HGZ.out)).trans (hS.2 j v hv)⟩
          have hgz1 : g < Z1.heap.size := Nat.lt_of_lt_of_le HGZ.out hB1.size
          refine ⟨_, rfl, .inr hS1, ?_⟩
          simp only [Act.put, List.getElem_toArray, List.getElem_cons_succ, List.getElem_cons_zero, List.setIfInBounds_toArray, List.set_cons_zero, List.set_cons_succ]
          refine anyT_step 8 (by kernel_rfl) rfl rfl ?_
          refine wp_slice_rec _ rfl tk nd lg ou p1 cdat.length c1' rfl ?_
          have hA : Below Z1.heap.size Z1 (Z1.alloc (.cells #[.int .i64 tk, .int .i64 nd, .bool ou, .int .i64 lg, .slice p1 cdat.length c1'] 48)) := (Below.refl _ _).alloc (Nat.le_refl _) _
          refine ⟨.inr ⟨hS1.1.alloc _, fun j v hv => (hA.cell (by exact hgz1)).trans (hS1.2 j v hv)⟩, ?_⟩
          simp only [Act.put, List.getElem_toArray, List.getElem_cons_succ, List.getElem_cons_zero, List.setIfInBounds_toArray, List.set_cons_zero, List.set_cons_succ]
          have HOW : Hid ((Z1.alloc (.cells #[.int .i64 tk, .int .i64 nd, .bool ou, .int .i64 lg, .slice p1 cdat.length c1'] 48)).ownsRow (o0 + 1) 48 5 v ac (cellsR acc ds)) := Lib.hid (by have := (HT.out.later hB1).own; rw [HACL.out] at this; exact this.alloc _)
          have HSA : Hid (o0 + 1 ≤ (Z1.alloc (.cells #[.int .i64 tk, .int .i64 nd, .bool ou, .int .i64 lg, .slice p1 cdat.length c1'] 48)).heap.size) := Lib.hid (by have := HS.out; have := hB1.size; simp; omega)
          refine anyT_step 9 (by kernel_rfl) rfl rfl ?_
          refine wp_append_two _ _ 22 rfl 48 i0 _ 5 56 Tryz.underlying22 hi hz0 hz1 hz2 (by rfl) (by omega) (o0 + 1) v ac _ rfl HOW.out ⟨Z1.heap.size, 0, none⟩ 1 1 (recC (cutV ⟨tk, nd, ou, lg, dt⟩ s) (.slice p1 cdat.length c1')) rfl rfl (news_of _ _ _) (recC_one _ _ _ _) (by omega) (by unfold maxLen; omega) (by omega) HSA.out ?_
          intro g3 cap Z3 hown hgr
          have b5 := HT.out.mid hB1 (show o0 < o0 + 1 by omega) _ hgr hS.1
          have hS3 : Blk Z3 o0 24 #[.int .i64 s, v] ∧ Z3.rangeAt g o [.int .i64 tk, .int .i64 nd, .bool ou, .int .i64 lg, .slice pd dn cd] := ⟨b5, (fr_row hgr).range (fun j v hv => (hA.cell (by exact hgz1)).trans (hS1.2 j v hv)) (fun e => by have h1 := own_ge HT.out.own _ e; have h2 := HGL.out; have h3 := HB0.out; have h4 := HLO.out; omega)⟩
          refine ⟨.inr hS3, ?_⟩
          simp only [Act.put, List.getElem_toArray, List.getElem_cons_succ, List.getElem_cons_zero, List.setIfInBounds_toArray, List.set_cons_zero, List.set_cons_succ]
          refine anyT_take 10 (.pointer (some ⟨o0, 1, none⟩)) rfl (by kernel_rfl) (by kernel_rfl) (by kernel_rfl) (by kernel_rfl) (fun _ _ _ h => h) rfl (fun w hw => ?_) hS3 ?_
          · go_simp; try rfl
          simp only [Act.put, List.getElem_toArray, List.getElem_cons_succ, List.getElem_cons_zero, List.setIfInBounds_toArray, List.set_cons_zero, List.set_cons_succ]
          refine anyT_step 11 (by kernel_rfl) rfl rfl ?_
          refine wp_store_slice _ _ rfl o0 1 _ _ _ rfl rfl v (b5.cell _) (b5.frozen _) ?_
          refine ⟨.inl rfl, ?_⟩
          refine anyT_done (by kernel_rfl) ?_
          obtain ⟨q1, q2, q3⟩ := HT.out.step HACL.out hB1 HS.out (show o0 < o0 + 1 by omega) (cutV ⟨tk, nd, ou, lg, dt⟩ s) _ (by rw [HCD.out]; exact hd1) _ hown hgr
          have bo2 := q3 _ _ hS.1
          have HF := Lib.hid (HF.out.trans q2.out)
          clear hown hgr b5 hS hS1 hS3 q2 q3 hd1 hB1 HOW HSA hA hgz1 hgw
          generalize Z3.setCell ⟨o0, 1, none⟩ (.slice (some ⟨g3, 0, none⟩) (ac + 1) cap) = Z4 at q1 bo2 HF ⊢
          simp only [Act.put, List.getElem_toArray, List.getElem_cons_succ, List.getElem_cons_zero, List.setIfInBounds_toArray, List.set_cons_zero, List.set_cons_succ]
          have HTL2 : Hid (RAt w (if cx = 1 then some ⟨g, o, none⟩ else some ⟨g, o + 5, none⟩) xs') := Lib.hid (by
            by_cases h1 : cx = 1
            · have := HNX.out
              obtain rfl : xs' = [] := List.eq_nil_of_length_eq_zero (by simp only [List.length_cons] at this; omega)
              exact .inl rfl
            · rw [if_neg h1]; exact HTL.out)
          have HL2 : Hid (xs'.length = nx - 1) := Lib.hid (by have := HNX.out; simp only [List.length_cons] at this; omega)
          have HEQ2 : Hid ((acc ++ [cutV ⟨tk, nd, ou, lg, dt⟩ s]) ++ (mergeR s xs' (yr :: ys')) = mergeR s a.recs b.recs) := Lib.hid (by rw [← HEQ.out, HM1.out]; simp)
          have HAC2 : Hid ((acc ++ [cutV ⟨tk, nd, ou, lg, dt⟩ s]).length + (nx - 1) + ny = n + m) := Lib.hid (by have := HAC.out; simp only [List.length_append, List.length_singleton]; omega)
          go_wp2
          exact ⟨⟨_, nx - 1, cx - 1, _, ny, cy, xs', yr :: ys', acc ++ [cutV ⟨tk, nd, ou, lg, dt⟩ s], _, _, rfl, rfl, by omega, by omega, by omega, HL2, HNY, HAC2, HTL2, HY, HEQ2, HDD2, HDY, bo2, q1, HF⟩, by simp only [sliceLen]; omega⟩
        · have HM1 : Hid (mergeR s (xr :: xs') (yr :: ys') = cutV yr s :: mergeR s (xr :: xs') ys') := Lib.hid (mergeR_y fun y l e => by injection e with e1 _; rw [← e1]; omega)
          obtain ⟨g2, o2, rfl, hgl2, ⟨pd2, cd2, hr52, hbd2, hsl2⟩, htl2⟩ := HX.out.head
          obtain ⟨g, o, rfl, hgl, ⟨pd, cd, hr5, hbd, hsl⟩, htl⟩ := HY.out.head
          have d0 : wr.cell? ⟨g2, o2, none⟩ = some (.int .i64 xr.tk) := (HB.out.cell (by exact hgl2)).trans (hr52 0 _ rfl)
          have k0 : wr.cell? ⟨g, o, none⟩ = some (.int .i64 yr.tk) := (HB.out.cell (by exact hgl)).trans (hr5 0 _ rfl)
          have e1 : decide (xr.tk ≤ yr.tk) = false := decide_eq_false hle
          go_upto_region 8 with fail
          go_quiet (fail)
          clear d0 k0 hgl2 hr52 hbd2 hsl2 htl2 hle e1
          have HDT := Lib.hid (hbd.later HB.out)
          have HTL := Lib.hid htl
          have HRG : Hid (wr.rangeAt g o (recC yr (.slice pd yr.data.length cd))) := Lib.hid fun j v hv => (HB.out.cell (by exact hgl)).trans (hr5 j v hv)
          have HGL := Lib.hid hgl
          have HDD1 := Lib.hid (HDY.out yr List.mem_cons_self)
          have HDD2 := Lib.hid (fun q (hq : q ∈ ys') => HDY.out q (List.mem_cons_of_mem _ hq))
          have HCU := Lib.hid (fun w' => cut_calls yr pd cd s hs0.out (Nat.le_trans HDD1.out (by omega)) w')
          obtain ⟨cdat, hcd⟩ : ∃ q, (cutV yr s).data = q := ⟨_, rfl⟩
          have HCD := Lib.hid hcd
          have HSL := Lib.hid hsl
          obtain ⟨tk, nd, ou, lg, dt⟩ := yr
          have HC2 : Hid (∀ w', BAt w' pd dt → Calls Tryz.prog 58 #[.agg #[.int .i64 tk, .int .i64 nd, .bool ou, .int .i64 lg, .slice pd dt.length cd], .int .i64 s] w' fun e w'' =>
            ∃ d, e = .returned (.agg #[.int .i64 tk, .int .i64 nd, .bool ou, .int .i64 lg, d]) ∧ w''.ownsRow w'.heap.size 5 1 d cdat.length (Lib.byteCells cdat) ∧ Below w'.heap.size w' w'') := Lib.hid (fun w' h2 => (HCU.out w' h2 HSL.out).mono fun e w'' ⟨d, h3, h4, h5⟩ => ⟨d, h3, by rw [← hcd]; exact h4, h5⟩)
          obtain ⟨dn, hdn⟩ : ∃ q, dt.length = q := ⟨_, rfl⟩
          simp only [recC, hdn] at HRG HC2
          clear hr5 hbd hsl htl hgl hcd hdn HCU x1 x1' hmore
          go_upto_region 11 with fail
          refine region_T (fun z => Blk z o0 24 #[.int .i64 s, v] ∧ z.rangeAt g o [.int .i64 tk, .int .i64 nd, .bool ou, .int .i64 lg, .slice pd dn cd]) (fun j => j == 11) (by kernel_rfl) ?_
          refine anyT_named (W0 := wr) (Below.drewN' (Below.refl _ _) _).drew fun Z hZ => ?_
          have hgw : g < wr.heap.size := Nat.lt_of_lt_of_le HGL.out HB.out.size
          have hS : Blk Z o0 24 #[.int .i64 s, v] ∧ Z.rangeAt g o [.int .i64 tk, .int .i64 nd, .bool ou, .int .i64 lg, .slice pd dn cd] := ⟨bo.out.later hZ bo.out.lt, fun j v hv => (hZ.cell (by exact hgw)).trans (HRG.out j v hv)⟩
          have HDT := Lib.hid (HDT.out.later hZ)
          have HT := Lib.hid (HT.out.later hZ)
          have HF := Lib.hid (HF.out.trans (Fr.of hZ))
          have HS := Lib.hid (Nat.le_trans HS.out hZ.size)
          have HGZ : Hid (g < Z.heap.size) := Lib.hid (Nat.lt_of_lt_of_le hgw hZ.size)
          clear hZ
          refine anyT_take 0 (.pointer (some ⟨o0, 1, none⟩)) rfl (by kernel_rfl) (by kernel_rfl) (by kernel_rfl) (by kernel_rfl) (fun _ _ _ h => h) rfl (fun w hw => ?_) hS ?_
          · go_simp; try rfl
          simp only [Act.put, List.getElem_toArray, List.getElem_cons_succ, List.getElem_cons_zero, List.setIfInBounds_toArray, List.set_cons_zero, List.set_cons_succ]
          refine anyT_take 1 v rfl (by kernel_rfl) (by kernel_rfl) (by kernel_rfl) (by kernel_rfl) (fun _ _ _ h => h) rfl (fun w hw => ?_) hS ?_
          · have c1 : w.cell? ⟨o0, 1, none⟩ = some v := hw.1.cell _
            go_simp; try rfl
          simp only [Act.put, List.getElem_toArray, List.getElem_cons_succ, List.getElem_cons_zero, List.setIfInBounds_toArray, List.set_cons_zero, List.set_cons_succ]
          refine anyT_take 2 (.slice (some ⟨g, o, none⟩) ny cy) rfl (by kernel_rfl) (by kernel_rfl) (by kernel_rfl) (by kernel_rfl) (fun _ _ _ h => h) rfl (fun w hw => ?_) hS ?_
          · go_simp; try rfl
          simp only [Act.put, List.getElem_toArray, List.getElem_cons_succ, List.getElem_cons_zero, List.setIfInBounds_toArray, List.set_cons_zero, List.set_cons_succ]
          refine anyT_take 3 (.pointer (some ⟨g, o, none⟩)) rfl (by kernel_rfl) (by kernel_rfl) (by kernel_rfl) (by kernel_rfl) (fun _ _ _ h => h) rfl (fun w hw => ?_) hS ?_
          · go_simp; try rfl
          simp only [Act.put, List.getElem_toArray, List.getElem_cons_succ, List.getElem_cons_zero, List.setIfInBounds_toArray, List.set_cons_zero, List.set_cons_succ]
          refine anyT_take 4 (.agg #[.int .i64 tk, .int .i64 nd, .bool ou, .int .i64 lg, .slice pd dn cd]) rfl (by kernel_rfl) (by kernel_rfl) (by kernel_rfl) (by kernel_rfl) (fun _ _ _ h => h) rfl (fun w hw => ?_) hS ?_
          · have c0 : w.cell? ⟨g, o, none⟩ = some (.int .i64 tk) := hw.2 0 _ rfl
            have c1 : w.cell? ⟨g, o + 1, none⟩ = some (.int .i64 nd) := hw.2 1 _ rfl
            have c2 : w.cell? ⟨g, o + 2, none⟩ = some (.bool ou) := hw.2 2 _ rfl
            have c3 : w.cell? ⟨g, o + 3, none⟩ = some (.int .i64 lg) := hw.2 3 _ rfl
            have c4 : w.cell? ⟨g, o + 4, none⟩ = some (.slice pd dn cd) := hw.2 4 _ rfl
            go_simp; try rfl
          simp only [Act.put, List.getElem_toArray, List.getElem_cons_succ, List.getElem_cons_zero, List.setIfInBounds_toArray, List.set_cons_zero, List.set_cons_succ]
          refine anyT_take 5 (.pointer (some ⟨o0, 0, none⟩)) rfl (by kernel_rfl) (by kernel_rfl) (by kernel_rfl) (by kernel_rfl) (fun _ _ _ h => h) rfl (fun w hw => ?_) hS ?_
          · go_simp; try rfl
          simp only [Act.put, List.getElem_toArray, List.getElem_cons_succ, List.getElem_cons_zero, List.setIfInBounds_toArray, List.set_cons_zero, List.set_cons_succ]
          refine anyT_take 6 (.int .i64 s) rfl (by kernel_rfl) (by kernel_rfl) (by kernel_rfl) (by kernel_rfl) (fun _ _ _ h => h) rfl (fun w hw => ?_) hS ?_
          · have c1 : w.cell? ⟨o0, 0, none⟩ = some (.int .i64 s) := hw.1.cell _
            go_simp; try rfl
          simp only [Act.put, List.getElem_toArray, List.getElem_cons_succ, List.getElem_cons_zero, List.setIfInBounds_toArray, List.set_cons_zero, List.set_cons_succ]
          refine anyT_step 7 (by kernel_rfl) rfl rfl ?_
          refine wp_enterG 58 #[.agg #[.int .i64 tk, .int .i64 nd, .bool ou, .int .i64 lg, .slice pd dn cd], .int .i64 s] (by first | kernel_rfl | go_simp) ?_
          refine (HC2.out Z HDT.out).mono ?_
          rintro e Z1 ⟨d', rfl, hd1, hB1⟩
          obtain ⟨p1, c1', rfl, _, _, _⟩ := own_bytes hd1
          have hS1 : Blk Z1 o0 24 #[.int .i64 s, v] ∧ Z1.rangeAt g o [.int .i64 tk, .int .i64 nd, .bool ou, .int .i64 lg, .slice pd dn cd] := ⟨hS.1.later hB1 hS.1.lt, fun j v hv => (hB1.cell (by exact HGZ.out)).trans (hS.2 j v hv)⟩
          have hgz1 : g < Z1.heap.size := Nat.lt_of_lt_of_le HGZ.out hB1.size
          refine ⟨_, rfl, .inr hS1, ?_⟩
          simp only [Act.put, List.getElem_toArray, List.getElem_cons_succ, List.getElem_cons_zero, List.setIfInBounds_toArray, List.set_cons_zero, List.set_cons_succ]
          refine anyT_step 8 (by kernel_rfl) rfl rfl ?_
          refine wp_slice_rec _ rfl tk nd lg ou p1 cdat.length c1' rfl ?_
          have hA : Below Z1.heap.size Z1 (Z1.alloc (.cells #[.int .i64 tk, .int .i64 nd, .bool ou, .int .i64 lg, .slice p1 cdat.length c1'] 48)) := (Below.refl _ _).alloc (Nat.le_refl _) _
          refine ⟨.inr ⟨hS1.1.alloc _, fun j v hv => (hA.cell (by exact hgz1)).trans (hS1.2 j v hv)⟩, ?_⟩
          simp only [Act.put, List.getElem_toArray, List.getElem_cons_succ, List.getElem_cons_zero, List.setIfInBounds_toArray, List.set_cons_zero, List.set_cons_succ]
          have HOW : Hid ((Z1.alloc (.cells #[.int .i64 tk, .int .i64 nd, .bool ou, .int .i64 lg, .slice p1 cdat.length c1'] 48)).ownsRow (o0 + 1) 48 5 v ac (cellsR acc ds)) := Lib.hid (by have := (HT.out.later hB1).own; rw [HACL.out] at this; exact this.alloc _)
          have HSA : Hid (o0 + 1 ≤ (Z1.alloc (.cells #[.int .i64 tk, .int .i64 nd, .bool ou, .int .i64 lg, .slice p1 cdat.length c1'] 48)).heap.size) := Lib.hid (by have := HS.out; have := hB1.size; simp; omega)
          refine anyT_step 9 (by kernel_rfl) rfl rfl ?_
          refine wp_append_two _ _ 22 rfl 48 i0 _ 5 56 Tryz.underlying22 hi hz0 hz1 hz2 (by rfl) (by omega) (o0 + 1) v ac _ rfl HOW.out ⟨Z1.heap.size, 0, none⟩ 1 1 (recC (cutV ⟨tk, nd, ou, lg, dt⟩ s) (.slice p1 cdat.length c1')) rfl rfl (news_of _ _ _) (recC_one _ _ _ _) (by omega) (by unfold maxLen; omega) (by omega) HSA.out ?_
          intro g3 cap Z3 hown hgr
          have b5 := HT.out.mid hB1 (show o0 < o0 + 1 by omega) _ hgr hS.1
          have hS3 : Blk Z3 o0 24 #[.int .i64 s, v] ∧ Z3.rangeAt g o [.int .i64 tk, .int .i64 nd, .bool ou, .int .i64 lg, .slice pd dn cd] := ⟨b5, (fr_row hgr).range (fun j v hv => (hA.cell (by exact hgz1)).trans (hS1.2 j v hv)) (fun e => by have h1 := own_ge HT.out.own _ e; have h2 := HGL.out; have h3 := HB0.out; have h4 := HLO.out; omega)⟩
          refine ⟨.inr hS3, ?_⟩
          simp only [Act.put, List.getElem_toArray, List.getElem_cons_succ, List.getElem_cons_zero, List.setIfInBounds_toArray, List.set_cons_zero, List.set_cons_succ]
          refine anyT_take 10 (.pointer (some ⟨o0, 1, none⟩)) rfl (by kernel_rfl) (by kernel_rfl) (by kernel_rfl) (by kernel_rfl) (fun _ _ _ h => h) rfl (fun w hw => ?_) hS3 ?_
          · go_simp; try rfl
          simp only [Act.put, List.getElem_toArray, List.getElem_cons_succ, List.getElem_cons_zero, List.setIfInBounds_toArray, List.set_cons_zero, List.set_cons_succ]
          refine anyT_step 11 (by kernel_rfl) rfl rfl ?_
          refine wp_store_slice _ _ rfl o0 1 _ _ _ rfl rfl v (b5.cell _) (b5.frozen _) ?_
          refine ⟨.inl rfl, ?_⟩
          refine anyT_done (by kernel_rfl) ?_
          obtain ⟨q1, q2, q3⟩ := HT.out.step HACL.out hB1 HS.out (show o0 < o0 + 1 by omega) (cutV ⟨tk, nd, ou, lg, dt⟩ s) _ (by rw [HCD.out]; exact hd1) _ hown hgr
          have bo2 := q3 _ _ hS.1
          have HF := Lib.hid (HF.out.trans q2.out)
          clear hown hgr b5 hS hS1 hS3 q2 q3 hd1 hB1 HOW HSA hA hgz1 hgw
          generalize Z3.setCell ⟨o0, 1, none⟩ (.slice (some ⟨g3, 0, none⟩) (ac + 1) cap) = Z4 at q1 bo2 HF ⊢
          simp only [Act.put, List.getElem_toArray, List.getElem_cons_succ, List.getElem_cons_zero, List.setIfInBounds_toArray, List.set_cons_zero, List.set_cons_succ]
          have HTL2 : Hid (RAt w (if cy = 1 then some ⟨g, o, none⟩ else some ⟨g, o + 5, none⟩) ys') := Lib.hid (by
            by_cases h1 : cy = 1
            · have := HNY.out
              obtain rfl : ys' = [] := List.eq_nil_of_length_eq_zero (by simp only [List.length_cons] at this; omega)
              exact .inl rfl
            · rw [if_neg h1]; exact HTL.out)
          have HL2 : Hid (ys'.length = ny - 1) := Lib.hid (by have := HNY.out; simp only [List.length_cons] at this; omega)
          have HEQ2 : Hid ((acc ++ [cutV ⟨tk, nd, ou, lg, dt⟩ s]) ++ (mergeR s (xr :: xs') ys') = mergeR s a.recs b.recs) := Lib.hid (by rw [← HEQ.out, HM1.out]; simp)
          have HAC2 : Hid ((acc ++ [cutV ⟨tk, nd, ou, lg, dt⟩ s]).length + nx + (ny - 1) = n + m) := Lib.hid (by have := HAC.out; simp only [List.length_append, List.length_singleton]; omega)
          go_wp2
          exact ⟨⟨_, nx, cx, _, ny - 1, cy - 1, xr :: xs', ys', acc ++ [cutV ⟨tk, nd, ou, lg, dt⟩ s], _, _, rfl, rfl, by omega, by omega, by omega, HNX, HL2, HAC2, HX, HTL2, HEQ2, HDX, HDD2, bo2, q1, HF⟩, by simp only [sliceLen]; omega⟩
    · have x1 : decide ((0 : Int) < (nx : Int) + (ny : Int)) = false := decide_eq_false (by omega)
      have x1' : decide (0 < nx + ny) = false := decide_eq_false hmore
      obtain rfl : nx = 0 := by omega
      obtain rfl : ny = 0 := by omega
      obtain rfl := List.eq_nil_of_length_eq_zero HNX.out
      obtain rfl := List.eq_nil_of_length_eq_zero HNY.out
      have hT := HT.out
      have hacc : acc = mergeR s a.recs b.recs := by rw [← HEQ.out]; simp [mergeR]
      have HACC := Lib.hid hacc
      obtain ⟨pv, cv, hv, _, _, _⟩ := hT.rat
      rw [HACL.out] at hv
      subst hv
      have HT := Lib.hid hT
      have o1 : wr.cell? ⟨o0, 0, none⟩ = some (.int .i64 s) := bo.out.cell _
      have o2 : wr.cell? ⟨o0, 1, none⟩ = some (.slice pv ac cv) := bo.out.cell _
      have bq := Lib.hid (HF.out.blk bq.out (fun e => by have := HLO.out; rcases e with e | e <;> omega))
      have q0 : wr.cell? ⟨b0 + 1 + 1, 0, none⟩ = some (.int .i64 0) := bq.out.cell _
      have q1 : wr.cell? ⟨b0 + 1 + 1, 1, none⟩ = some (.slice none 0 0) := bq.out.cell _
      have g0 : wr.frozen? ⟨b0 + 1 + 1, 0, none⟩ = false := bq.out.frozen _
      have g1 : wr.frozen? ⟨b0 + 1 + 1, 1, none⟩ = false := bq.out.frozen _
      clear hmore hT hacc
      go_wp2
      obtain ⟨k1, k2, k3⟩ := tape_fin s bq.out HT.out (by have := HLO.out; omega) HB.out (by rw [HB0.out]; omega) (by rw [HB0.out]; have := HLO.out; omega)
      refine bodyPost_ret (v := .tuple #[.agg #[.int .i64 s, .slice pv ac cv], .int .i64 0]) (by exact results_cell2 (fn := Tryz.f27) rfl _ _ (b0 + 1 + 1) 24 _ _ rfl k1 Tryz.underlying24 rfl tape_size) rfl ⟨.slice pv ac cv, ds, ?_, ?_, k3⟩
      · rw [HVV.out]
      · rw [HVV.out, ← HACC.out]; exact k2
end Go.Proofs.YtpciggnanlflkaaGreatDoor.Ad
