/- Contract of tape.picked. Conditions: none beyond those that each theorem states. -/
import Derived.Test.YtpciggnanlflkaaGreatDoorWl
namespace Go.Proofs.YtpciggnanlflkaaGreatDoor.Ad
set_option linter.unusedVariables false
set_option linter.unusedSimpArgs false
open Go.RowKit Go.Maps W
/-- The records that are wanted, cut down. -/
def pickV (want : Rec → Bool) (s : Int) (l : List Rec) : List Rec := (l.filter want).map (cutV · s)
theorem pickV_snoc (want : Rec → Bool) (s : Int) (l : List Rec) (r : Rec) : pickV want s (l ++ [r]) = if want r = true then pickV want s l ++ [cutV r s] else pickV want s l := by
  unfold pickV
  rw [List.filter_append]
  by_cases h : want r = true
  · rw [if_pos h]; simp [h]
  · rw [if_neg h]; simp [h]
theorem pickV_le (want : Rec → Bool) (s : Int) (l : List Rec) : (pickV want s l).length ≤ l.length := by
  unfold pickV; rw [List.length_map]; exact List.length_filter_le _ _
/-- A closure that tells whether a record is wanted. -/
def Wants (fc : FuncId) (cap : Array Value) (want : Rec → Bool) (w : World) (l : List Rec) : Prop :=
  ∀ w', Below w.heap.size w w' → ∀ r ∈ l, ∀ pd cd, BAt w' pd r.data → SlOk pd r.data.length cd → Calls Tryz.prog fc (#[.agg (recC r (.slice pd r.data.length cd)).toArray] ++ cap) w' fun e w'' => e = .returned (.bool (want r)) ∧ Below w'.heap.size w' w''
set_option maxRecDepth 100000 in
set_option maxHeartbeats 4000000 in
theorem picked_calls (fc : FuncId) (cap : Array Value) (want : Rec → Bool) (hfc : ∀ args w, (callFunc fc args).run Tryz.prog w = .ok (.enter fc args) w) (t : Tp) (p : Option Go.Addr) (c : Nat) (snap : Int) (h0 : 0 ≤ snap) (w : World) (hp : RAt w p t.recs) (hl : t.recs.length ≤ 1048576) (hd : ∀ r ∈ t.recs, r.data.length ≤ 1048576)
    (hw : Wants fc cap want w t.recs) : Calls Tryz.prog 59 #[.agg #[.int .i64 t.snap, .slice p t.recs.length c], .int .i64 snap, .func (.func fc) #[] cap] w fun e w' =>
    ∃ v ds, e = .returned (.agg #[.int .i64 snap, v]) ∧ TO w' w.heap.size v (pickV want snap t.recs) ds ∧ Below w.heap.size w w' := by
  have HP := Lib.hid hp
  have HWA := Lib.hid hw
  obtain ⟨n, hn⟩ : ∃ n, t.recs.length = n := ⟨_, rfl⟩
  have HN := Lib.hid hn
  obtain ⟨sn, hsn⟩ : ∃ n, t.snap = n := ⟨_, rfl⟩
  rw [hsn, hn]
  have hb32 : n ≤ 1048576 := by rw [← hn]; exact hl
  have HD := Lib.hid hd
  clear hp hn hsn hl hd hw
  obtain ⟨i0, hi, hz0, hz1, hz2⟩ := info_parts rec_info
  go_enter Tryz.func59, Tryz.ntmps59
  go_upto_region 2 with fail
  refine wp_named fun W hW => ?_
  obtain ⟨bk, bq, bo, BW, sW⟩ := box3 hW
  obtain ⟨b0, hb0⟩ : ∃ b, w.heap.size = b := ⟨_, rfl⟩
  have HB0 := Lib.hid hb0
  rw [hb0] at bk bq bo sW ⊢
  clear hW hb0
  have c1 : W.cell? ⟨b0, 1, none⟩ = some (.slice p n c) := bk.out.cell _
  go_upto_region 3 with fail
  clear c1
  go_loopw [9, 15] (fun _ u15 wr => ∃ (k : Nat) (v : Value) (ds : List Value), u15 = .int .i64 k ∧ k ≤ n ∧ Hid (Blk wr (b0 + 1 + 1) 24 #[.int .i64 snap, v]) ∧ Hid (TO wr (b0 + 3) v (pickV want snap (t.recs.take k)) ds) ∧ Hid (Fr (Sb (b0 + 1 + 1) (b0 + 3)) W wr)) (fun _ u15 _ => n - (intOf u15).toNat)
  case atStart => exact ⟨0, _, [], rfl, Nat.zero_le _, bo, Lib.hid (by simpa [pickV] using TO.nil W (b0 + 3)), Lib.hid (Fr.refl _ _)⟩
  case round =>
    clear bo
    obtain ⟨k, v, ds, rfl, hk, bo, HT, HF⟩ := hrel
    have HB : Hid (Below b0 w wr) := Lib.hid (by have := BW.out; rw [HB0.out] at this; exact this.trans (HF.out.below (fun k hk e => by rcases e with e | e <;> omega) (by have := sW.out; omega)))
    have HS : Hid (b0 + 3 ≤ wr.heap.size) := Lib.hid (by have := sW.out; have := HF.out.size; omega)
    by_cases hlt : k < n
    · have x1 : decide ((k : Int) < (n : Int)) = true := decide_eq_true (by omega)
      have x1' : decide (k < n) = true := decide_eq_true hlt
      have HK : Hid (k < t.recs.length) := Lib.hid (by have := HN.out; omega)
      obtain ⟨r, hr⟩ : ∃ r, t.recs[k]? = some r := ⟨_, List.getElem?_eq_getElem HK.out⟩
      have HRR := Lib.hid hr
      have HMEM := Lib.hid (List.mem_of_getElem? hr)
      have HDL := Lib.hid (HD.out r (List.mem_of_getElem? hr))
      obtain ⟨g, o, rfl, hgl, pd, cd, hr5, hbd, hsl⟩ := own_cellsB (HP.out.later (by rw [HB0.out]; exact HB.out)) hr
      have HDT := Lib.hid hbd
      have HSL := Lib.hid hsl
      have HTK : Hid (t.recs.take (k + 1) = t.recs.take k ++ [r]) := Lib.hid (by rw [List.take_add_one, hr]; rfl)
      have HPN : Hid (pickV want snap (t.recs.take (k + 1)) = if want r = true then pickV want snap (t.recs.take k) ++ [cutV r snap] else pickV want snap (t.recs.take k)) := Lib.hid (by rw [HTK.out, pickV_snoc])
      have HPL : Hid ((pickV want snap (t.recs.take k)).length ≤ k) := Lib.hid (Nat.le_trans (pickV_le _ _ _) (by rw [List.length_take]; omega))
      clear hr hbd hgl hsl HTK
      obtain ⟨l, hl⟩ : ∃ l, pickV want snap (t.recs.take k) = l := ⟨_, rfl⟩
      rw [hl] at HT HPN HPL
      obtain ⟨m, hm⟩ : ∃ m, l.length = m := ⟨_, rfl⟩
      have HM := Lib.hid hm
      rw [hm] at HPL
      have hmk : m ≤ k := HPL.out
      obtain ⟨wb, hwb⟩ : ∃ b, want r = b := ⟨_, rfl⟩
      have HWB := Lib.hid hwb
      rw [hwb] at HPN
      have HCL := Lib.hid (fun w' h => HWA.out w' h r HMEM.out)
      have HCU := Lib.hid (fun (pd : Option Go.Addr) cd w' => cut_calls r pd cd snap h0 (Nat.le_trans HDL.out (by omega)) w')
      have HNXD := Lib.hid (show (cutV r snap).data.length ≤ 1048576 by have := HDL.out; simp only [cutV, List.length_take]; omega)
      obtain ⟨cdat, hcd⟩ : ∃ q, (cutV r snap).data = q := ⟨_, rfl⟩
      have HCD := Lib.hid hcd
      rw [hwb] at HCL
      obtain ⟨tk, nd, ou, lg, dt⟩ := r
      have d0 : wr.cell? ⟨g, o + k * 5, none⟩ = some (.int .i64 tk) := hr5 0 _ rfl
      have d1 : wr.cell? ⟨g, o + k * 5 + 1, none⟩ = some (.int .i64 nd) := hr5 1 _ rfl
      have d2 : wr.cell? ⟨g, o + k * 5 + 2, none⟩ = some (.bool ou) := hr5 2 _ rfl
      have d3 : wr.cell? ⟨g, o + k * 5 + 3, none⟩ = some (.int .i64 lg) := hr5 3 _ rfl
      have d4 : wr.cell? ⟨g, o + k * 5 + 4, none⟩ = some (.slice pd dt.length cd) := hr5 4 _ rfl
      have HC1 : Hid (∀ w', Below w.heap.size w w' → BAt w' pd dt → Calls Tryz.prog fc (#[.agg #[.int .i64 tk, .int .i64 nd, .bool ou, .int .i64 lg, .slice pd dt.length cd]] ++ cap) w' fun e w'' => e = .returned (.bool wb) ∧ Below w'.heap.size w' w'') := Lib.hid (fun w' h h2 => HCL.out w' h pd cd h2 HSL.out)
      have HC2 : Hid (∀ w', BAt w' pd dt → Calls Tryz.prog 58 #[.agg #[.int .i64 tk, .int .i64 nd, .bool ou, .int .i64 lg, .slice pd dt.length cd], .int .i64 snap] w' fun e w'' =>
        ∃ d, e = .returned (.agg #[.int .i64 tk, .int .i64 nd, .bool ou, .int .i64 lg, d]) ∧ w''.ownsRow w'.heap.size 5 1 d cdat.length (Lib.byteCells cdat) ∧ Below w'.heap.size w' w'') := Lib.hid (fun w' h2 => (HCU.out pd cd w' h2 HSL.out).mono fun e w'' ⟨d, h3, h4, h5⟩ => ⟨d, h3, by rw [← hcd]; exact h4, h5⟩)
      obtain ⟨dn, hdn⟩ : ∃ q, dt.length = q := ⟨_, rfl⟩
      rw [hdn] at d4 HC1 HC2
      clear hr5 hdn hl hm hwb HCL HCU hcd
      go_upto_region 5 with fail
      refine wp_named fun V hV => ?_
      obtain ⟨b3, B3, s3⟩ := box1 hV
      have HDT := Lib.hid (HDT.out.later B3.out)
      have HNE := Lib.hid (own_fresh HT.out.own)
      have bo := Lib.hid (bo.out.later B3.out bo.out.lt)
      have HT := Lib.hid (HT.out.later B3.out)
      have HF := Lib.hid (HF.out.trans (Fr.of (B3.out)))
      have HB := Lib.hid (HB.out.trans (B3.out.mono (by have := HS.out; omega)))
      have HS := Lib.hid (Nat.le_trans HS.out B3.out.size)
      obtain ⟨G, hG⟩ : ∃ g, wr.heap.size = g := ⟨_, rfl⟩
      rw [hG] at b3 s3 HNE ⊢
      clear hV hG d0 d1 d2 d3 d4 B3 s3
      have r0 : V.cell? ⟨G, 0, none⟩ = some (.int .i64 tk) := b3.out.cell _
      have r1 : V.cell? ⟨G, 1, none⟩ = some (.int .i64 nd) := b3.out.cell _
      have r2 : V.cell? ⟨G, 2, none⟩ = some (.bool ou) := b3.out.cell _
      have r3 : V.cell? ⟨G, 3, none⟩ = some (.int .i64 lg) := b3.out.cell _
      have r4 : V.cell? ⟨G, 4, none⟩ = some (.slice pd dn cd) := b3.out.cell _
      go_wp2
      refine (HC1.out V (by rw [HB0.out]; exact HB.out) HDT.out).mono ?_
      rintro e V1 ⟨rfl, hB1⟩
      have HDT := Lib.hid (HDT.out.later hB1)
      have bo := Lib.hid (bo.out.later hB1 bo.out.lt)
      have b3 := Lib.hid (b3.out.later hB1 b3.out.lt)
      have HT := Lib.hid (HT.out.later hB1)
      have HF := Lib.hid (HF.out.trans (Fr.of hB1))
      have HS := Lib.hid (Nat.le_trans HS.out hB1.size)
      clear hB1 r0 r1 r2 r3 r4 HC1 HB
      cases wb
      · have HT2 : Hid (TO V1 (b0 + 3) v (pickV want snap (t.recs.take (k + 1))) ds) := Lib.hid (by rw [HPN.out]; exact HT.out)
        go_wp2
        exact ⟨⟨k + 1, v, ds, by go_num, by omega, bo, HT2, HF⟩, by simp [intOf]; omega⟩
      · go_upto_region 6 with fail
        refine region_T (fun z => Blk z (b0 + 1 + 1) 24 #[.int .i64 snap, v] ∧ Blk z G 48 #[.int .i64 tk, .int .i64 nd, .bool ou, .int .i64 lg, .slice pd dn cd]) (fun j => j == 8) (by kernel_rfl) ?_
        refine anyT_named (W0 := V1) ((Below.refl _ _).drew) fun Z hZ => ?_
        have hS : Blk Z (b0 + 1 + 1) 24 #[.int .i64 snap, v] ∧ Blk Z G 48 #[.int .i64 tk, .int .i64 nd, .bool ou, .int .i64 lg, .slice pd dn cd] := ⟨bo.out.later hZ bo.out.lt, b3.out.later hZ b3.out.lt⟩
        have HDT := Lib.hid (HDT.out.later hZ)
        have HT := Lib.hid (HT.out.later hZ)
        have HF := Lib.hid (HF.out.trans (Fr.of hZ))
        have HS := Lib.hid (Nat.le_trans HS.out hZ.size)
        clear hZ
        have q0 : ∀ w, Blk w (b0 + 1 + 1) 24 #[.int .i64 snap, v] → w.cell? ⟨b0 + 1 + 1, 1, none⟩ = some v := fun w h => h.cell _
        refine anyT_take 0 (.pointer (some ⟨b0 + 1 + 1, 1, none⟩)) rfl (by kernel_rfl) (by kernel_rfl) (by kernel_rfl) (by kernel_rfl) (fun _ _ _ h => h) rfl (fun w hw => ?_) hS ?_
        · go_simp; try rfl
        simp only [Act.put, List.getElem_toArray, List.getElem_cons_succ, List.getElem_cons_zero, List.setIfInBounds_toArray, List.set_cons_zero, List.set_cons_succ]
        refine anyT_take 1 v rfl (by kernel_rfl) (by kernel_rfl) (by kernel_rfl) (by kernel_rfl) (fun _ _ _ h => h) rfl (fun w hw => ?_) hS ?_
        · have c1 : w.cell? ⟨b0 + 1 + 1, 1, none⟩ = some v := hw.1.cell _
          go_simp; try rfl
        simp only [Act.put, List.getElem_toArray, List.getElem_cons_succ, List.getElem_cons_zero, List.setIfInBounds_toArray, List.set_cons_zero, List.set_cons_succ]
        refine anyT_take 2 (.agg #[.int .i64 tk, .int .i64 nd, .bool ou, .int .i64 lg, .slice pd dn cd]) rfl (by kernel_rfl) (by kernel_rfl) (by kernel_rfl) (by kernel_rfl) (fun _ _ _ h => h) rfl (fun w hw => ?_) hS ?_
        · have c0 : w.cell? ⟨G, 0, none⟩ = some (.int .i64 tk) := hw.2.cell _
          have c1 : w.cell? ⟨G, 1, none⟩ = some (.int .i64 nd) := hw.2.cell _
          have c2 : w.cell? ⟨G, 2, none⟩ = some (.bool ou) := hw.2.cell _
          have c3 : w.cell? ⟨G, 3, none⟩ = some (.int .i64 lg) := hw.2.cell _
          have c4 : w.cell? ⟨G, 4, none⟩ = some (.slice pd dn cd) := hw.2.cell _
          go_simp; try rfl
        simp only [Act.put, List.getElem_toArray, List.getElem_cons_succ, List.getElem_cons_zero, List.setIfInBounds_toArray, List.set_cons_zero, List.set_cons_succ]
        refine anyT_take 3 (.int .i64 snap) rfl (by kernel_rfl) (by kernel_rfl) (by kernel_rfl) (by kernel_rfl) (fun _ _ _ h => h) rfl (fun w hw => ?_) hS ?_
        · go_simp; try rfl
        simp only [Act.put, List.getElem_toArray, List.getElem_cons_succ, List.getElem_cons_zero, List.setIfInBounds_toArray, List.set_cons_zero, List.set_cons_succ]
        refine anyT_step 4 (by kernel_rfl) rfl rfl ?_
        refine wp_enterG 58 #[.agg #[.int .i64 tk, .int .i64 nd, .bool ou, .int .i64 lg, .slice pd dn cd], .int .i64 snap] (by first | kernel_rfl | go_simp) ?_
        refine (HC2.out Z HDT.out).mono ?_
        rintro e Z1 ⟨d, rfl, hd1, hB1⟩
        obtain ⟨p1, c1', rfl, _, _, _⟩ := own_bytes hd1
        have hS1 : Blk Z1 (b0 + 1 + 1) 24 #[.int .i64 snap, v] ∧ Blk Z1 G 48 #[.int .i64 tk, .int .i64 nd, .bool ou, .int .i64 lg, .slice pd dn cd] := ⟨hS.1.later hB1 hS.1.lt, hS.2.later hB1 hS.2.lt⟩
        refine ⟨_, rfl, .inr hS1, ?_⟩
        simp only [Act.put, List.getElem_toArray, List.getElem_cons_succ, List.getElem_cons_zero, List.setIfInBounds_toArray, List.set_cons_zero, List.set_cons_succ]
        refine anyT_step 5 (by kernel_rfl) rfl rfl ?_
        refine wp_slice_rec _ rfl tk nd lg ou p1 cdat.length c1' rfl ?_
        refine ⟨.inr ⟨hS1.1.alloc _, hS1.2.alloc _⟩, ?_⟩
        simp only [Act.put, List.getElem_toArray, List.getElem_cons_succ, List.getElem_cons_zero, List.setIfInBounds_toArray, List.set_cons_zero, List.set_cons_succ]
        have HOW : Hid ((Z1.alloc (.cells #[.int .i64 tk, .int .i64 nd, .bool ou, .int .i64 lg, .slice p1 cdat.length c1'] 48)).ownsRow (b0 + 3) 48 5 v m (cellsR l ds)) := Lib.hid (by have := (HT.out.later hB1).own; rw [HM.out] at this; exact this.alloc _)
        have HSA : Hid (b0 + 3 ≤ (Z1.alloc (.cells #[.int .i64 tk, .int .i64 nd, .bool ou, .int .i64 lg, .slice p1 cdat.length c1'] 48)).heap.size) := Lib.hid (by have := HS.out; have := hB1.size; simp; omega)
        refine anyT_step 6 (by kernel_rfl) rfl rfl ?_
        refine wp_append_two _ _ 22 rfl 48 i0 _ 5 56 Tryz.underlying22 hi hz0 hz1 hz2 (by rfl) (by omega) (b0 + 3) v m _ rfl HOW.out ⟨Z1.heap.size, 0, none⟩ 1 1 (recC (cutV ⟨tk, nd, ou, lg, dt⟩ snap) (.slice p1 cdat.length c1')) rfl rfl (news_of _ _ _) (recC_one _ _ _ _) (by omega) (by unfold maxLen; omega) (by omega) HSA.out ?_
        intro g2 cap Z3 hown hgr
        have b5 := HT.out.mid hB1 (show b0 + 1 + 1 < b0 + 3 by omega) _ hgr hS.1
        have hS3 : Blk Z3 (b0 + 1 + 1) 24 #[.int .i64 snap, v] ∧ Blk Z3 G 48 #[.int .i64 tk, .int .i64 nd, .bool ou, .int .i64 lg, .slice pd dn cd] := ⟨b5, (fr_row hgr).blk (hS1.2.alloc _) HNE.out⟩
        refine ⟨.inr hS3, ?_⟩
        simp only [Act.put, List.getElem_toArray, List.getElem_cons_succ, List.getElem_cons_zero, List.setIfInBounds_toArray, List.set_cons_zero, List.set_cons_succ]
        refine anyT_take 7 (.pointer (some ⟨b0 + 1 + 1, 1, none⟩)) rfl (by kernel_rfl) (by kernel_rfl) (by kernel_rfl) (by kernel_rfl) (fun _ _ _ h => h) rfl (fun w hw => ?_) hS3 ?_
        · go_simp; try rfl
        simp only [Act.put, List.getElem_toArray, List.getElem_cons_succ, List.getElem_cons_zero, List.setIfInBounds_toArray, List.set_cons_zero, List.set_cons_succ]
        refine anyT_step 8 (by kernel_rfl) rfl rfl ?_
        refine wp_store_slice _ _ rfl (b0 + 1 + 1) 1 _ _ _ rfl rfl v (b5.cell _) (b5.frozen _) ?_
        refine ⟨.inl rfl, ?_⟩
        refine anyT_done (by kernel_rfl) ?_
        obtain ⟨q1, q2, q3⟩ := HT.out.step HM.out hB1 HS.out (show b0 + 1 + 1 < b0 + 3 by omega) (cutV ⟨tk, nd, ou, lg, dt⟩ snap) _ (by rw [HCD.out]; exact hd1) _ hown hgr
        have HT2 : Hid (TO (Z3.setCell ⟨b0 + 1 + 1, 1, none⟩ (.slice (some ⟨g2, 0, none⟩) (m + 1) cap)) (b0 + 3) (.slice (some ⟨g2, 0, none⟩) (m + 1) cap) (pickV want snap (t.recs.take (k + 1))) (ds ++ [.slice p1 cdat.length c1'])) := Lib.hid (by rw [HPN.out]; exact q1.out)
        have bo2 := q3 _ _ hS.1
        have HF := Lib.hid (HF.out.trans q2.out)
        clear hown hgr b5 hS hS1 hS3 q1 q2 q3 hd1 hB1 HOW HSA
        generalize Z3.setCell ⟨b0 + 1 + 1, 1, none⟩ (.slice (some ⟨g2, 0, none⟩) (m + 1) cap) = Z4 at HT2 bo2 HF ⊢
        go_wp2
        exact ⟨⟨k + 1, _, _, by go_num, by omega, bo2, HT2, HF⟩, by simp [intOf]; omega⟩
    · have x1 : decide ((k : Int) < (n : Int)) = false := decide_eq_false (by omega)
      have x1' : decide (k < n) = false := decide_eq_false hlt
      have HTK : Hid (t.recs.take k = t.recs) := Lib.hid (List.take_of_length_le (by have := HN.out; omega))
      have o0 : wr.cell? ⟨b0 + 1 + 1, 0, none⟩ = some (.int .i64 snap) := bo.out.cell _
      have o1 : wr.cell? ⟨b0 + 1 + 1, 1, none⟩ = some v := bo.out.cell _
      have bq := Lib.hid (HF.out.blk bq.out (fun e => by rcases e with e | e <;> omega))
      have q0 : wr.cell? ⟨b0 + 1, 0, none⟩ = some (.int .i64 0) := bq.out.cell _
      have q1 : wr.cell? ⟨b0 + 1, 1, none⟩ = some (.slice none 0 0) := bq.out.cell _
      have f0 : wr.frozen? ⟨b0 + 1, 0, none⟩ = false := bq.out.frozen _
      have f1 : wr.frozen? ⟨b0 + 1, 1, none⟩ = false := bq.out.frozen _
      clear hlt
      have hT := HT.out
      rw [HTK.out] at hT
      obtain ⟨pv, cv, hv, _, _, _⟩ := hT.rat
      obtain ⟨m, hm⟩ : ∃ m, (pickV want snap t.recs).length = m := ⟨_, rfl⟩
      rw [hm] at hv
      subst hv
      have HT := Lib.hid hT
      clear hT hm
      go_wp2
      have hf2 : Fr (fun k => k = b0 + 1) wr ((wr.setCell ⟨b0 + 1, 0, none⟩ (.int .i64 snap)).setCell ⟨b0 + 1, 1, none⟩ (.slice pv m cv)) := Fr.trans fr_set fr_set
      refine bodyPost_ret (v := .agg #[.int .i64 snap, .slice pv m cv]) (by exact results_cell_row (fn := Tryz.f59) rfl _ _ (b0 + 1) 24 _ (0, 0) _ rfl ((bq.out.set_ 0 (.int .i64 snap)).set_ 1 (.slice pv m cv)) Tryz.underlying24 rfl tape_size) rfl ⟨_, ds, rfl, ?_, ?_⟩
      · rw [HB0.out]
        exact (HT.out.fr hf2 (fun k hk e => by have := own_ge HT.out.own k hk; omega) (fun x hx k hk e => by have := (HT.out.dlt hx k hk).1; omega)).base (by omega)
      · rw [HB0.out]
        exact HB.out.trans (hf2.below (fun k hk e => by omega) (by have := HS.out; omega))
end Go.Proofs.YtpciggnanlflkaaGreatDoor.Ad
