/- Contract of tape.Build. Conditions: none beyond those that the theorem states. -/
import Derived.Test.YtpciggnanlflkaaGreatDoorWd
namespace Go.Proofs.YtpciggnanlflkaaGreatDoor.Ad
set_option linter.unusedVariables false
set_option linter.unusedSimpArgs false
open Go.RowKit Go.Maps W
theorem own_cellsB {w : World} {p : Option Go.Addr} {l : List Rec} {k : Nat} {r : Rec} (h : RAt w p l) (hr : l[k]? = some r) : ∃ g o, p = some ⟨g, o, none⟩ ∧ g < w.heap.size ∧ ∃ pd cd, w.rangeAt g (o + k * 5) (recC r (.slice pd r.data.length cd)) ∧ BAt w pd r.data ∧ SlOk pd r.data.length cd := by
  rcases h with rfl | ⟨g, o, h1, h2, h3⟩
  · simp at hr
  · exact ⟨g, o, h1, h2, h3 k r hr⟩
theorem recs_take {l : List Rec} {k : Nat} {r : Rec} (hr : l[k]? = some r) : (l.take (k + 1)).flatMap recB = (l.take k).flatMap recB ++ recB r := by
  rw [List.take_add_one, hr]; simp
theorem bytes_bound {t : Tp} (h : rightV t = true) (k : Nat) : (headB t ++ (t.recs.take k).flatMap recB).length ≤ 268652557 := by
  unfold rightV at h
  rw [Bool.and_eq_true] at h
  have h1 := of_decide_eq_true h.1
  have h2 := bytes_le (t.recs.take k) fun r hr => all_len h.2 r (List.mem_of_mem_take hr)
  rw [List.length_take] at h2
  rw [List.length_append, headB_len]
  omega
theorem number_step (B : Nat) (l : List UInt8) (x : Value) (v : Int) (n : Nat) (hn : n ≤ 8) (m : Int) (hm : m = n) (w : World) (hx : Hid (w.ownsRow B 5 1 x l.length (Lib.byteCells l))) (hB : Hid (B ≤ w.heap.size)) (hl : Hid (l.length ≤ 4294967296)) :
    Calls Tryz.prog 33 #[x, .int .i64 v, .int .i64 m] w fun e w' => ∃ x' l', e = .returned x' ∧ Hid (l' = l ++ numB v n) ∧ Hid (w'.ownsRow B 5 1 x' l'.length (Lib.byteCells l')) ∧ Hid (Ap x w x' w') ∧ Hid (Below B w w') ∧ Hid (B ≤ w'.heap.size) :=
  (number_calls B l x v n hn m hm w hx.out hB.out hl.out).mono fun e w' ⟨x', l', h1, h2, h3, h4⟩ =>
    have h5 := h4.out.below (own_ge hx.out) hB.out
    ⟨x', l', h1, h2, h3, h4, Lib.hid h5, Lib.hid (Nat.le_trans hB.out h5.size)⟩
theorem right_len {t : Tp} (h : rightV t = true) : t.recs.length ≤ 4096 := by
  unfold rightV at h
  rw [Bool.and_eq_true] at h
  exact (of_decide_eq_true h.1).2.2
set_option maxRecDepth 100000 in
set_option maxHeartbeats 4000000 in
theorem build_calls (t : Tp) (p : Option Go.Addr) (c : Nat) (w : World) (hp : RAt w p t.recs) : Calls Tryz.prog 10 #[.agg #[.int .i64 t.snap, .slice p t.recs.length c]] w fun e w' =>
    ∃ v, e = .returned (.tuple #[v, .int .i64 (buildV t).2]) ∧ w'.ownsRow w.heap.size 5 1 v (buildV t).1.length (Lib.byteCells (buildV t).1) ∧ Below w.heap.size w w' := by
  have HP := Lib.hid hp
  have HRI := Lib.hid (fun w' (h : Below w.heap.size w w') => right_calls t p c w' (hp.later h))
  cases hm : rightV t
  · have HM : Hid (buildV t = ([], 1)) := Lib.hid (by unfold buildV; rw [hm]; rfl)
    rw [hm] at HRI
    clear hp hm
    go_enter Tryz.func10, Tryz.ntmps10
    go_upto_region 1 with fail
    refine wp_named fun W hW => ?_
    obtain ⟨bk, BW, sW⟩ := box1 hW
    have c0 : W.cell? ⟨w.heap.size, 0, none⟩ = some (.int .i64 t.snap) := bk.out.cell _
    have c1 : W.cell? ⟨w.heap.size, 1, none⟩ = some (.slice p t.recs.length c) := bk.out.cell _
    clear hW
    go_wp2_with (go_at_call 16; refine (HRI.out _ BW.out).mono ?_; rintro e W2 ⟨rfl, hB2⟩)
    go_ret2
    exact ⟨_, by rw [HM.out]; rfl, by rw [HM.out]; exact World.ownsRow_nil _ _ _ _, (keep BW hB2).out⟩
  · have HM : Hid (buildV t = (bytesB t, 0)) := Lib.hid (by unfold buildV; rw [hm]; rfl)
    rw [hm] at HRI
    have HRT := Lib.hid hm
    obtain ⟨n, hn⟩ : ∃ n, t.recs.length = n := ⟨_, rfl⟩
    have HN := Lib.hid hn
    obtain ⟨sn, hsn⟩ : ∃ n, t.snap = n := ⟨_, rfl⟩
    have HSN := Lib.hid hsn
    rw [hn, hsn] at HRI ⊢
    have hb32 : n ≤ 4096 := by rw [← hn]; exact right_len hm
    clear hp hm hn hsn
    obtain ⟨i0, hi, hz0, hz1, hz2⟩ := info_parts (show (Tryz.prog.info? 5).map (fun i => (i.zero, i.size, i.bytes)) = some (some (.int .u8 0), 1, 1) by kernel_rfl)
    go_enter Tryz.func10, Tryz.ntmps10
    go_upto_region 1 with fail
    refine wp_named fun W hW => ?_
    obtain ⟨bk, BW, sW⟩ := box1 hW
    have c0 : W.cell? ⟨w.heap.size, 0, none⟩ = some (.int .i64 sn) := bk.out.cell _
    have c1 : W.cell? ⟨w.heap.size, 1, none⟩ = some (.slice p n c) := bk.out.cell _
    clear hW
    go_upto_region 3 with (go_at_call 16; refine (HRI.out _ BW.out).mono ?_; rintro e W2 ⟨rfl, hB2⟩)
    have BW2 := keep BW hB2
    have HLT : Hid (w.heap.size < W2.heap.size) := Lib.hid (by have := hB2.size; have := bk.out.lt; omega)
    have bk := Lib.hid (bk.out.later hB2 bk.out.lt)
    clear hB2 c0 c1 BW sW HRI
    have hcv := Lib.run_convert_bytes_const (P := Tryz.prog) W2 26 5 #[.int .u8 116, .int .u8 97, .int .u8 112, .int .u8 101] 4 4 Tryz.underlying26 Tryz.underlying5
    have HO1 : Hid (∀ j v, [Value.int .u8 116, .int .u8 97, .int .u8 112, .int .u8 101][j]? = some v → ((W2.alloc (.cells #[.int .u8 116, .int .u8 97, .int .u8 112, .int .u8 101] 5 (4, 5))).alloc (.cells #[.int .u8 1] 5)).cell? ((⟨W2.heap.size, 0, none⟩ : Go.Addr).add j) = some v) := Lib.hid fun j v hv => by
      rw [Addr.add_lit, Nat.zero_add, cell_new_old]
      simpa using hv
    have HN1 : Hid (∀ j v, [Value.int .u8 1][j]? = some v → ((W2.alloc (.cells #[.int .u8 116, .int .u8 97, .int .u8 112, .int .u8 101] 5 (4, 5))).alloc (.cells #[.int .u8 1] 5)).cell? ((⟨W2.heap.size + 1, 0, none⟩ : Go.Addr).add j) = some v) := Lib.hid fun j v hv => by
      have h := cell_new (W2.alloc (.cells #[.int .u8 116, .int .u8 97, .int .u8 112, .int .u8 101] 5 (4, 5))) #[.int .u8 1] 5 (0, 0) j
      rw [show (W2.alloc (.cells #[.int .u8 116, .int .u8 97, .int .u8 112, .int .u8 101] 5 (4, 5))).heap.size = W2.heap.size + 1 by simp] at h
      rw [Addr.add_lit, Nat.zero_add, h]
      simpa using hv
    have HBA := Lib.hid (((Below.refl W2.heap.size W2).alloc (Nat.le_refl _) (.cells #[.int .u8 116, .int .u8 97, .int .u8 112, .int .u8 101] 5 (4, 5))).alloc (by simp) (.cells #[.int .u8 1] 5))
    go_upto_region 4 with (at_builtin; refine wpList_append_full rfl _ _ 26 rfl 5 i0 _ 1 1 Tryz.underlying26 hi hz0 hz1 hz2 (by rfl) W2.heap.size ⟨W2.heap.size, 0, none⟩ 4 [.int .u8 116, .int .u8 97, .int .u8 112, .int .u8 101] rfl rfl HO1.out ⟨W2.heap.size + 1, 0, none⟩ 1 1 [.int .u8 1] rfl rfl HN1.out (by omega) (by unfold maxLen; omega) (by omega) (by exact HBA.out.size) ?_; intro cap0 W3 hown hB3)
    have HX : Hid (∃ x0 l0, x0 = Value.slice (some ⟨W2.heap.size + 1 + 1, 0, none⟩) 5 cap0 ∧ l0 = ([116, 97, 112, 101, 1] : List UInt8) ∧ W3.ownsRow W2.heap.size 5 1 x0 l0.length (Lib.byteCells l0)) := Lib.hid ⟨_, _, rfl, rfl, by
      have e : ((W2.alloc (.cells #[.int .u8 116, .int .u8 97, .int .u8 112, .int .u8 101] 5 (4, 5))).alloc (.cells #[.int .u8 1] 5)).heap.size = W2.heap.size + 1 + 1 := by simp
      rw [← e]
      exact hown⟩
    have HB := Lib.hid (HBA.out.trans (hB3.mono (by simp; omega)))
    have bk := Lib.hid (bk.out.later HB.out bk.out.lt)
    have HRA := Lib.hid (HP.out.later BW2.out)
    have HS := Lib.hid HB.out.size
    clear hown hB3 HO1 HN1 HBA hcv
    obtain ⟨x0, l0, hx0, hl0, hown0⟩ := HX.out
    rw [← hx0]
    have HL0 := Lib.hid hl0
    have HO := Lib.hid hown0
    have HNE : Hid (x0.ownBlock ≠ some w.heap.size) := Lib.hid fun e => by have := own_ge hown0 _ e; have := HLT.out; omega
    have HLEN : Hid (l0.length ≤ 4294967296) := Lib.hid (by rw [hl0]; decide)
    clear hx0 hl0 hown0 HX
    have c0 : W3.cell? ⟨w.heap.size, 0, none⟩ = some (.int .i64 sn) := bk.out.cell _
    go_upto_region 5 with (go_at_call 33; refine (number_step W2.heap.size l0 x0 sn 4 (by omega) _ rfl _ HO HS HLEN).mono ?_; rintro e W4 ⟨x1, l1, rfl, HL1, HO1, HA1, HB1, HS1⟩)
    have bk := Lib.hid (HA1.out.blk bk.out HNE.out)
    have HB := Lib.hid (HB.out.trans HB1.out)
    have HNE1 := Lib.hid (HA1.out.ne HNE.out (Nat.lt_of_lt_of_le HLT.out HS.out))
    have c1 : W4.cell? ⟨w.heap.size, 1, none⟩ = some (.slice p n c) := bk.out.cell _
    have HLEN1 : Hid (l1.length ≤ 4294967296) := Lib.hid (by rw [HL1.out, HL0.out]; simp [numB_len])
    clear c0 HO HLEN HA1 HB1
    go_upto_region 6 with (go_at_call 33; refine (number_step W2.heap.size l1 x1 (n : Int) 4 (by omega) _ rfl _ HO1 HS1 HLEN1).mono ?_; rintro e W5 ⟨x2, l2, rfl, HL2, HO2, HA2, HB2, HS2⟩)
    have bk := Lib.hid (HA2.out.blk bk.out HNE1.out)
    have HB := Lib.hid (HB.out.trans HB2.out)
    have c1 : W5.cell? ⟨w.heap.size, 1, none⟩ = some (.slice p n c) := bk.out.cell _
    have HLH : Hid (l2 = headB t ++ (t.recs.take 0).flatMap recB) := Lib.hid (by rw [HL2.out, HL1.out, HL0.out, ← HSN.out, ← HN.out]; simp [headB])
    clear HO1 HLEN1 HA2 HB2 HNE HNE1 HL0 HL1 HL2 HS HS1
    go_upto_region 7 with fail
    clear c1
    go_loopw [4, 6, 7, 27] (fun u4 _ _ u wr => ∃ (k : Nat) (x : Value) (l : List UInt8), u = .int .i64 k ∧ u4 = x ∧ k ≤ n ∧ Hid (l = headB t ++ (t.recs.take k).flatMap recB) ∧ Hid (wr.ownsRow W2.heap.size 5 1 x l.length (Lib.byteCells l)) ∧ Hid (Below W2.heap.size W2 wr)) (fun _ _ _ u _ => n - (intOf u).toNat)
    case atStart => exact ⟨0, _, _, rfl, rfl, Nat.zero_le _, HLH, HO2, HB⟩
    case round =>
      clear HB HO2 HLH
      obtain ⟨k, x, l, rfl, rfl, hk, HL, HO, HB⟩ := hrel
      have HS := Lib.hid HB.out.size
      by_cases hlt : k < n
      · have x1 : decide ((k : Int) < (n : Int)) = true := decide_eq_true (by omega)
        have x1' : decide (k < n) = true := decide_eq_true hlt
        have HK : Hid (k < t.recs.length) := Lib.hid (by have := HN.out; omega)
        obtain ⟨r, hr⟩ : ∃ r, t.recs[k]? = some r := ⟨_, List.getElem?_eq_getElem HK.out⟩
        have HRR := Lib.hid hr
        have HLB : Hid (l.length + (recB r).length ≤ 268652557) := Lib.hid (by
          have h := bytes_bound HRT.out (k + 1)
          rw [recs_take hr, ← List.append_assoc, ← HL.out, List.length_append] at h
          exact h)
        obtain ⟨g, o, rfl, hgl, pd, cd, hr0, hbd, _⟩ := own_cellsB HRA.out hr
        have hr5 : wr.rangeAt g (o + k * 5) (recC r (.slice pd r.data.length cd)) := fun j v hv => (HB.out.cell (by exact hgl)).trans (hr0 j v hv)
        clear hr0
        have HDT := Lib.hid hbd
        clear hr hbd hgl
        obtain ⟨tk, nd, ou, lg, dt⟩ := r
        have d0 : wr.cell? ⟨g, o + k * 5, none⟩ = some (.int .i64 tk) := hr5 0 _ rfl
        have d1 : wr.cell? ⟨g, o + k * 5 + 1, none⟩ = some (.int .i64 nd) := hr5 1 _ rfl
        have d2 : wr.cell? ⟨g, o + k * 5 + 2, none⟩ = some (.bool ou) := hr5 2 _ rfl
        have d3 : wr.cell? ⟨g, o + k * 5 + 3, none⟩ = some (.int .i64 lg) := hr5 3 _ rfl
        have d4 : wr.cell? ⟨g, o + k * 5 + 4, none⟩ = some (.slice pd dt.length cd) := hr5 4 _ rfl
        obtain ⟨dn, hdn⟩ : ∃ q, dt.length = q := ⟨_, rfl⟩
        have HDN := Lib.hid hdn
        rw [hdn] at d4
        clear hr5 hdn
        go_upto_region 9 with fail
        refine wp_named fun V hV => ?_
        obtain ⟨b3, B3, s3⟩ := box1 hV
        have HNE : Hid (u4.ownBlock ≠ some wr.heap.size) := Lib.hid (own_fresh HO.out)
        have HO := Lib.hid (own_later HO.out B3.out)
        have HGV : Hid (wr.heap.size < V.heap.size) := Lib.hid b3.out.lt
        have HB := Lib.hid (HB.out.trans (B3.out.mono HS.out))
        have HS := Lib.hid HB.out.size
        obtain ⟨G, hG⟩ : ∃ g, wr.heap.size = g := ⟨_, rfl⟩
        rw [hG] at b3 HNE HGV ⊢
        clear hV hG d0 d1 d2 d3 d4 B3 s3
        have e0 : V.cell? ⟨G, 0, none⟩ = some (.int .i64 tk) := b3.out.cell _
        have HLEN : Hid (l.length + (14 + dt.length) ≤ 268652557) := Lib.hid (by have := HLB.out; rw [recB_len] at this; simp only at this; omega)
        have HL0 : Hid (l.length ≤ 4294967296) := Lib.hid (by have := HLEN.out; omega)
        go_upto_region 10 with (go_at_call 33; refine (number_step W2.heap.size l u4 tk 8 (by omega) _ rfl _ HO HS HL0).mono ?_; rintro e V1 ⟨x1, l1, rfl, HL1, HO1, HA1, HB1, HS1⟩)
        have b3 := Lib.hid (HA1.out.blk b3.out HNE.out)
        have HNE1 := Lib.hid (HA1.out.ne HNE.out HGV.out)
        have HGV1 := Lib.hid b3.out.lt
        have HDT := Lib.hid (HDT.out)
        have HB := Lib.hid (HB.out.trans HB1.out)
        clear e0 HO HS HNE HGV HA1 HB1
        have e2 : V1.cell? ⟨G, 2, none⟩ = some (.bool ou) := b3.out.cell _
        have e1 : V1.cell? ⟨G, 1, none⟩ = some (.int .i64 nd) := b3.out.cell _
        have HL1n : Hid (l1.length ≤ 4294967296) := Lib.hid (by have := HLEN.out; rw [HL1.out, List.length_append, numB_len]; omega)
        obtain ⟨oi, hoi⟩ : ∃ q : Int, outV ou = q := ⟨_, rfl⟩
        have HOI := Lib.hid hoi
        have hcase : ∀ (b : Bool), ou = b → (if b = true then (1 : Int) else 0) = oi := fun b hb => by rw [← hoi, hb]; rfl
        clear hoi
        cases ou
        all_goals
          have hoi := hcase _ rfl
          simp only [if_true, if_false, Bool.false_eq_true] at hoi
          subst hoi
          clear hcase
          go_upto_region 13 with fail
          clear e2
          go_upto_region 14 with (go_at_call 33; refine (number_step W2.heap.size l1 x1 nd 1 (by omega) _ rfl _ HO1 HS1 HL1n).mono ?_; rintro e V2 ⟨x2, l2, rfl, HL2, HO2, HA2, HB2, HS2⟩)
          have b3 := Lib.hid (HA2.out.blk b3.out HNE1.out)
          have HNE2 := Lib.hid (HA2.out.ne HNE1.out HGV1.out)
          have HGV2 := Lib.hid b3.out.lt
          have HB := Lib.hid (HB.out.trans HB2.out)
          have HL2n : Hid (l2.length ≤ 4294967296) := Lib.hid (by have := HLEN.out; rw [HL2.out, HL1.out]; simp only [List.length_append, numB_len]; omega)
          clear e1 HO1 HS1 HNE1 HGV1 HA2 HB2 HL1n
          go_upto_region 15 with (go_at_call 33; refine (number_step W2.heap.size l2 x2 _ 1 (by omega) _ rfl _ HO2 HS2 HL2n).mono ?_; rintro e V3 ⟨x3, l3, rfl, HL3, HO3, HA3, HB3, HS3⟩)
          have b3 := Lib.hid (HA3.out.blk b3.out HNE2.out)
          have HNE3 := Lib.hid (HA3.out.ne HNE2.out HGV2.out)
          have HGV3 := Lib.hid b3.out.lt
          have HB := Lib.hid (HB.out.trans HB3.out)
          have HL3n : Hid (l3.length ≤ 4294967296) := Lib.hid (by have := HLEN.out; rw [HL3.out, HL2.out, HL1.out]; simp only [List.length_append, numB_len]; omega)
          have e3 : V3.cell? ⟨G, 3, none⟩ = some (.int .i64 lg) := b3.out.cell _
          clear HO2 HS2 HNE2 HGV2 HA3 HB3 HL2n
          go_upto_region 16 with (go_at_call 33; refine (number_step W2.heap.size l3 x3 lg 4 (by omega) _ rfl _ HO3 HS3 HL3n).mono ?_; rintro e V4 ⟨x4, l4, rfl, HL4, HO4, HA4, HB4, HS4⟩)
          have b3 := Lib.hid (HA4.out.blk b3.out HNE3.out)
          have HB := Lib.hid (HB.out.trans HB4.out)
          have HL4n : Hid (l4.length + dt.length ≤ 4294967296) := Lib.hid (by have := HLEN.out; rw [HL4.out, HL3.out, HL2.out, HL1.out]; simp only [List.length_append, numB_len]; omega)
          have e4 : V4.cell? ⟨G, 4, none⟩ = some (.slice pd dn cd) := b3.out.cell _
          have HDV := Lib.hid (HDT.out.later HB.out)
          clear HO3 HS3 HNE3 HGV3 HA4 HB4 HL3n e3
          go_wp2_with (at_builtin; refine wpList_append_bytes rfl _ _ rfl W2.heap.size x4 l4 rfl HO4.out pd dt dn cd HDN.out.symm rfl HDV.out (Nat.le_trans HL4n.out (by omega)) HS4.out ?_; intro x5 V5 HO5 HA5)
          have HO5 := Lib.hid HO5
          have HB := Lib.hid (HB.out.trans (HA5.below (own_ge HO4.out) HS4.out))
          have HN5 : Hid (l4 ++ dt = headB t ++ (t.recs.take (k + 1)).flatMap recB) := Lib.hid (by
            rw [HL4.out, HL3.out, HL2.out, HL1.out, HL.out, recs_take HRR.out]
            simp only [recB, outV, List.append_assoc, if_true, if_false, Bool.false_eq_true])
          exact ⟨⟨k + 1, _, _, by go_num, rfl, by omega, HN5, HO5, HB⟩, by simp [intOf]; omega⟩
      · have x1 : decide ((k : Int) < (n : Int)) = false := decide_eq_false (by omega)
        have x1' : decide (k < n) = false := decide_eq_false hlt
        have HF : Hid (l = bytesB t) := Lib.hid (by
          have hkn : k = n := by omega
          rw [HL.out, hkn, ← HN.out, List.take_length]; rfl)
        clear hlt
        go_wp2
        go_ret2
        exact ⟨u4, by rw [HM.out]; rfl, by rw [HM.out]; show wr.ownsRow _ _ _ _ (bytesB t).length (Lib.byteCells (bytesB t)); rw [← HF.out]; exact own_base HO.out BW2.out.size, BW2.out.trans (HB.out.mono BW2.out.size)⟩
end Go.Proofs.YtpciggnanlflkaaGreatDoor.Ad
