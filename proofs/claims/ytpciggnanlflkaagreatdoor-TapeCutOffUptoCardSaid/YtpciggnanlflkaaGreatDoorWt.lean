/- Contract of tape.Read. Conditions: fewer than 2^40 bytes. -/
import Derived.Test.YtpciggnanlflkaaGreatDoorWs
namespace Go.Proofs.YtpciggnanlflkaaGreatDoor.Ad
set_option linter.unusedVariables false
set_option linter.unusedSimpArgs false
open Go.RowKit Go.Maps W
theorem conv_mark {w : World} {p : Option Go.Addr} {l : List UInt8} (h : BAt w p l) (c : Nat) : (convert 26 9 (.slice p l.length c)).run Tryz.prog w = .ok (.string (S l)) w := conv_bytes h _ c rfl
theorem takeS_rest (l : List UInt8) (e : Int) (n : Nat) : (takeS l e n).2.1.length ≤ l.length := by
  unfold takeS
  split
  · exact Nat.le_refl _
  · split
    · exact Nat.le_refl _
    · simp [List.length_drop]
theorem fieldS_rest {l l' : List UInt8} {e e' v : Int} {n least most : Nat} (h : fieldS l e n least most = (v, l', e')) : l'.length ≤ l.length := by
  unfold fieldS at h
  injection h with h1 h2
  injection h2 with h2 h3
  rw [← h2]; exact takeS_rest _ _ _
theorem Rdr.fr {S : Nat → Prop} {w w' : World} {b : Nat} {l : List UInt8} {e : Int} (h : Rdr w b l e) (hf : Fr S w w') (hb : ¬ S b) (hS : ∀ k, k < b → ¬ S k) : Rdr w' b l e := by
  obtain ⟨p, c, h1, h2, h3, h4⟩ := h
  exact ⟨p, c, hf.blk h1 hb, h2.fr hf (fun a ha e => by obtain ⟨g, o, rfl, h5⟩ := h4 a ha; exact hS g h5 e), h3, h4⟩
theorem S_mark (l : List UInt8) : ((S l).toList == [116, 97, 112, 101]) = decide (l = markB) := by
  rw [ByteArray.toList_eq, S_list]
  by_cases h : l = markB
  · rw [decide_eq_true h, h]; rfl
  · rw [decide_eq_false h]; exact beq_eq_false_iff_ne.2 h
theorem field_step (b : Nat) (l : List UInt8) (e : Int) (n least most : Nat) (ni li mi : Int) (hni : ni = n) (hli : li = least) (hmi : mi = most) (hn : n ≤ 8) (hl : Hid (l.length ≤ 1099511627776)) (h1 : least ≤ 18446744073709551615) (h2 : most ≤ 18446744073709551615) (w : World) (h : Hid (Rdr w b l e)) :
    Calls Tryz.prog 46 #[.pointer (some ⟨b, 0, none⟩), .int .i64 ni, .int .u64 li, .int .u64 mi] w fun ex w' => ∃ v l' e', ex = .returned (.int .i64 v) ∧ Hid (fieldS l e n least most = (v, l', e')) ∧ Hid (Rdr w' b l' e') ∧ Hid (Fr (fun k => k = b) w w') ∧ Hid (l'.length ≤ 1099511627776) := by
  subst hni; subst hli; subst hmi
  refine (field_calls b l e n least most hn (Nat.le_trans hl.out (by omega)) h1 h2 w h.out).mono fun ex w' ⟨h3, h4, h5⟩ => ?_
  obtain ⟨⟨v, l', e'⟩, hv⟩ : ∃ s, fieldS l e n least most = s := ⟨_, rfl⟩
  rw [hv] at h3 h4
  exact ⟨v, l', e', h3, Lib.hid hv, Lib.hid h4, Lib.hid h5, Lib.hid (Nat.le_trans (fieldS_rest hv) hl.out)⟩
set_option maxRecDepth 100000 in
theorem wp_store_tape {o : Oper} {a : Act} {w : World} {K : Act → World → Prop} {Q : Exit → Act → World → Prop} (x y : Operand) (ho : o.op = .store 24 x y) (b : Nat) (s : Int) (p : Option Go.Addr) (n c : Nat) (hx : a.eval x = .pointer (some ⟨b, 0, none⟩)) (hy : a.eval y = .agg #[.int .i64 s, .slice p n c])
    (x0 x1 : Value) (hb : Blk w b 24 #[x0, x1]) (h : K (a.put o.dst undef) ((w.setCell ⟨b, 0, none⟩ (.int .i64 s)).setCell ⟨b, 1, none⟩ (.slice p n c))) : o.wp Tryz.prog a w K Q := by
  have q0 : w.cell? ⟨b, 0, none⟩ = some x0 := hb.cell _
  have q1 : w.cell? ⟨b, 1, none⟩ = some x1 := hb.cell _
  have g0 : w.frozen? ⟨b, 0, none⟩ = false := hb.frozen _
  have g1 : w.frozen? ⟨b, 1, none⟩ = false := hb.frozen _
  unfold Oper.wp execOp
  simp only [ho, hx, hy]
  go_simp
  exact h
/-- A field read and laid into a struct's cell. -/
theorem st_step {V Va : World} {b G j : Nat} {cs : Array Value} {u : Value} {l : List UInt8} {e : Int} (hx : Blk V G 48 cs) (hf : Fr (fun k => k = b) V Va) (hr : Rdr Va b l e) (hb : b < G) :
    Hid (Blk (Va.setCell ⟨G, j, none⟩ u) G 48 (cs.setIfInBounds j u)) ∧ Hid (Rdr (Va.setCell ⟨G, j, none⟩ u) b l e) ∧ Hid (Fr (fun k => k = b ∨ G ≤ k) V (Va.setCell ⟨G, j, none⟩ u)) :=
  ⟨Lib.hid ((hf.blk hx (by omega)).set_ j u), Lib.hid (hr.fr (S := fun k => k = G) fr_set (by omega) (fun k hk e => by omega)), Lib.hid ((hf.mono fun k _ e => .inl e).trans (fr_set.mono fun k _ e => .inr (by omega)))⟩
set_option maxRecDepth 100000 in
set_option maxHeartbeats 8000000 in
theorem read_calls (b : List UInt8) (p : Option Go.Addr) (n c : Nat) (hn : n = b.length) (hl : b.length ≤ 1099511627776) (w : World) (hb : BAt w p b) (hs : SlOk p n c) (hp : ∀ a, p = some a → ∃ g o, a = ⟨g, o, none⟩ ∧ g < w.heap.size) :
    Calls Tryz.prog 18 #[.slice p n c] w fun ex w' => ∃ v ds, ex = .returned (.tuple #[.agg #[.int .i64 (readV8 b).1.snap, v], .int .i64 (readV8 b).2]) ∧ TO w' w.heap.size v (readV8 b).1.recs ds ∧ Below w.heap.size w w' := by
  have HB0 := Lib.hid hb
  have HSL := Lib.hid hs
  have HPP := Lib.hid hp
  have HN := Lib.hid hn
  have HL := Lib.hid hl
  clear hb hs hp hn hl
  obtain ⟨i0, hi, hz0, hz1, hz2⟩ := info_parts rec_info
  go_enter Tryz.func18, Tryz.ntmps18
  go_upto_region 2 with fail
  refine wp_named fun W hW => ?_
  obtain ⟨bq, br, BW, sW⟩ := box2 hW
  have HRD : Hid (Rdr W (w.heap.size + 1) b 0) := Lib.hid ⟨p, c, by rw [← HN.out]; exact br.out, HB0.out.later BW.out, by rw [← HN.out]; exact HSL.out, fun a ha => by obtain ⟨g, o, h1, h2⟩ := HPP.out a ha; exact ⟨g, o, h1, by omega⟩⟩
  obtain ⟨b0, hb0⟩ : ∃ b, w.heap.size = b := ⟨_, rfl⟩
  have HBE := Lib.hid hb0
  rw [hb0] at bq sW HRD ⊢
  clear hW hb0 br
  go_upto_region 3 with (go_at_call 45; refine (take_calls (b0 + 1) b 0 4 (by omega) (Nat.le_trans HL.out (by omega)) W HRD.out).mono ?_; rintro ex V ⟨pf, cf, rfl, hat, hsl, hrd, hf⟩)
  obtain ⟨⟨f0, l0, e0⟩, hts⟩ : ∃ s, takeS b 0 4 = s := ⟨_, rfl⟩
  have HTS := Lib.hid hts
  have HL0 : Hid (l0.length ≤ 1099511627776) := Lib.hid (by have h1 := takeS_rest b 0 4; rw [hts] at h1; exact Nat.le_trans h1 HL.out)
  rw [hts] at hat hsl hrd ⊢
  dsimp only at hat hsl hrd ⊢
  have HRD := Lib.hid hrd
  have HF := Lib.hid hf
  obtain ⟨p1, c1, hb1, _, _, _⟩ := hrd
  have k1 : V.cell? ⟨b0 + 1, 1, none⟩ = some (.int .i64 e0) := hb1.cell _
  have hcv := conv_mark hat cf
  have hmk := S_mark f0
  obtain ⟨q, hq⟩ : ∃ q, decide (f0 = markB) = q := ⟨_, rfl⟩
  have HQ := Lib.hid hq
  rw [hq] at hmk
  obtain ⟨fl, hfl⟩ : ∃ k, f0.length = k := ⟨_, rfl⟩
  rw [hfl] at hcv ⊢
  clear hts hat hsl hf hb1 hq hfl
  by_cases hbad : e0 = 0 ∧ q = false
  · obtain ⟨rfl, rfl⟩ := hbad
    have HVV : Hid (readV8 b = (⟨0, []⟩, 50)) := Lib.hid (by
      have h1 := of_decide_eq_false HQ.out
      have h2 := HTS.out
      unfold takeS at h2
      rw [if_neg (by simp)] at h2
      unfold readV8 readE
      by_cases h3 : b.length < 4
      · rw [if_pos h3] at h2; injection h2 with _ h2; injection h2 with _ h2; omega
      · rw [if_neg h3] at h2
        injection h2 with h2 _
        rw [if_neg h3, if_pos (by rw [h2]; exact h1)])
    have hmk2 : ((S f0).toList != [116, 97, 112, 101]) = true := by rw [bne, hmk]; rfl
    have bq := Lib.hid (HF.out.blk bq.out (by omega))
    have q0 : V.cell? ⟨b0, 0, none⟩ = some (.int .i64 0) := bq.out.cell _
    have q1 : V.cell? ⟨b0, 1, none⟩ = some (.slice none 0 0) := bq.out.cell _
    have g0 : V.frozen? ⟨b0, 0, none⟩ = false := bq.out.frozen _
    have g1 : V.frozen? ⟨b0, 1, none⟩ = false := bq.out.frozen _
    have HBV : Hid (Below w.heap.size w V) := Lib.hid (BW.out.trans (HF.out.below (fun k hk e => by have := HBE.out; omega) BW.out.size))
    go_wp2
    obtain ⟨z1, z2, z3⟩ := tape_fin (w := w) 0 bq.out (TO.nil _ (b0 + 2)) (by omega) HBV.out (by rw [HBE.out]; omega) (by rw [HBE.out]; omega)
    refine bodyPost_ret (v := .tuple #[.agg #[.int .i64 0, .slice none 0 0], .int .i64 50]) (by exact results_cell2 (fn := Tryz.f18) rfl _ _ b0 24 _ _ rfl z1 Tryz.underlying24 rfl tape_size) rfl ⟨.slice none 0 0, [], by rw [HVV.out], by rw [HVV.out]; exact z2, z3⟩
  have HNB : Hid (¬ (e0 = 0 ∧ f0 ≠ markB)) := Lib.hid (fun h => hbad ⟨h.1, by rw [← HQ.out]; exact decide_eq_false h.2⟩)
  go_cut [24] from 15 to 24 (fun u wx => u = .bool false ∧ V = wx)
  case first =>
    by_cases he : e0 = 0
    · subst he
      have hqt : q = true := by cases q; exact absurd ⟨rfl, rfl⟩ hbad; rfl
      subst hqt
      have hmk2 : ((S f0).toList != [116, 97, 112, 101]) = false := by rw [bne, hmk]; rfl
      clear hbad
      go_wp2
      go_meet
      case rel => exact ⟨rfl, rfl⟩
    · have y0 : (e0 == 0) = false := beq_eq_false_iff_ne.2 he
      clear hbad he
      go_wp2
      go_meet
      case rel => exact ⟨rfl, rfl⟩
  case rest =>
  obtain ⟨rfl, rfl⟩ := hcut
  clear hbad k1 hcv hmk
  go_upto_region 6 with (go_at_call 46; refine (field_step (b0 + 1) l0 e0 1 1 1 _ _ _ rfl rfl rfl (by omega) HL0 (by omega) (by omega) _ HRD).mono ?_; rintro ex V1 ⟨v1, l1, e1, rfl, H1, HR1, HF1, HL1⟩)
  have HF := Lib.hid (HF.out.trans HF1.out)
  clear HF1
  go_upto_region 7 with (go_at_call 46; refine (field_step (b0 + 1) l1 e1 4 0 65575 _ _ _ rfl rfl rfl (by omega) HL1 (by omega) (by omega) _ HR1).mono ?_; rintro ex V2 ⟨sn, l2, e2, rfl, H2, HR2, HF2, HL2⟩)
  refine wp_named fun X hX => ?_
  have HF := Lib.hid (HF.out.trans HF2.out)
  have HSV : Hid (b0 + 2 ≤ V2.heap.size) := Lib.hid (by have := HF.out.size; have := sW.out; omega)
  have bq := Lib.hid (HF.out.blk bq.out (by omega))
  have HBV : Hid (Below w.heap.size w V2) := Lib.hid (BW.out.trans (HF.out.below (fun k hk e => by have := HBE.out; omega) BW.out.size))
  obtain ⟨bo, BX, sX⟩ := box1 hX
  have HR2 := Lib.hid (HR2.out.later BX.out)
  have bq := Lib.hid (bq.out.later BX.out bq.out.lt)
  have HBX := keep HBV BX.out
  obtain ⟨o0, ho0⟩ : ∃ o, V2.heap.size = o := ⟨_, rfl⟩
  have HO2 : Hid (b0 + 2 ≤ o0) := Lib.hid (by have := HSV.out; omega)
  rw [ho0] at bo sX ⊢
  clear hX ho0 HF2 HF BX HBV HSV HRD HR1 HL0 HL1 BW sW
  go_upto_region 8 with (go_at_call 46; refine (field_step (b0 + 1) l2 e2 4 0 4096 _ _ _ rfl rfl rfl (by omega) HL2 (by omega) (by omega) _ HR2).mono ?_; rintro ex V3 ⟨ct, l3, e3, rfl, H3, HR3, HF3, HL3⟩)
  have HHL := Lib.hid (head_link HTS.out HNB.out H1.out H2.out H3.out)
  have HF : Hid (Fr (fun k => k = b0 + 1 ∨ o0 ≤ k) X V3) := Lib.hid (HF3.out.mono fun k _ e => .inl e)
  have bo := Lib.hid (HF3.out.blk bo.out (by have := HO2.out; omega))
  clear HF3 H1 H2 H3 HTS HNB HQ HR2 HL2
  go_upto_block 0 with fail
  go_cut [8, 9] from 34 to 77 (fun _ _ wx => ∃ (l : List UInt8) (e : Int) (v : Value) (ds : List Value) (acc : List Rec), Hid (Rdr wx (b0 + 1) l e) ∧ Hid (Blk wx o0 24 #[.int .i64 sn, v]) ∧ Hid (TO wx (o0 + 1) v acc ds) ∧ Hid (Fr (fun k => k = b0 + 1 ∨ o0 ≤ k) X wx) ∧ Hid (l.length ≤ 1099511627776) ∧
    Hid ((e = 0 → ∃ s : Nat, sn = s ∧ s ≤ 65575 ∧ readE b = tailE s acc (.ok ([], l))) ∧ (e ≠ 0 → readE b = .error e)))
  case first =>
    go_wp2_with fail
    go_loopw [8, 9, 34] (fun u8 _ u34 wr => ∃ (i frm : Nat) (l : List UInt8) (e : Int) (v : Value) (ds : List Value) (acc : List Rec), u34 = .int .i64 i ∧ u8 = .int .i64 frm ∧ frm ≤ 1099511627776 ∧ i ≤ 4096 ∧ Hid (acc.length = i) ∧ Hid (Rdr wr (b0 + 1) l e) ∧ Hid (Blk wr o0 24 #[.int .i64 sn, v]) ∧ Hid (TO wr (o0 + 1) v acc ds) ∧ Hid (Fr (fun k => k = b0 + 1 ∨ o0 ≤ k) X wr) ∧ Hid (l.length ≤ 1099511627776) ∧
      Hid ((e = 0 → ∃ s cN : Nat, sn = s ∧ s ≤ 65575 ∧ ct = cN ∧ cN ≤ 4096 ∧ i ≤ cN ∧ readE b = tailE s acc (recsE s (cN - i) frm l)) ∧ (e ≠ 0 → i = 0 ∧ readE b = .error e))) (fun _ _ u34 _ => (ct - intOf u34).toNat)
    case atStart =>
      refine ⟨0, 0, l3, e3, _, [], [], rfl, rfl, by omega, by omega, Lib.hid rfl, HR3, bo, Lib.hid (TO.nil _ _), HF, HL3, Lib.hid ⟨fun h => ?_, fun h => ⟨rfl, HHL.out.2 h⟩⟩⟩
      obtain ⟨s, c, h1, h2, h3, h4, h5⟩ := HHL.out.1 h
      exact ⟨s, c, h1, h2, h3, h4, Nat.zero_le _, h5⟩
    case round =>
      clear HR3 bo HF HL3 HHL
      obtain ⟨i, frm, l, e, v, ds, acc, rfl, rfl, hfrm, hi4, HAC, HRD, bo, HT, HF, HLL, HI⟩ := hrel
      by_cases hlt : (i : Int) < ct
      · have x1 : decide ((i : Int) < ct) = true := decide_eq_true hlt
        have HLT := Lib.hid hlt
        have hmo : (frm : Int) % 18446744073709551616 = frm := by omega
        have HGR : Hid (b0 + 1 < wr.heap.size ∧ o0 < wr.heap.size) := Lib.hid ⟨by have := HO2.out; have := bo.out.lt; omega, bo.out.lt⟩
        go_upto_region 12 with fail
        refine wp_named fun V hV => ?_
        obtain ⟨bx, BV, sV⟩ := box1 hV
        have HRV := Lib.hid (HRD.out.later BV.out)
        obtain ⟨G, hG⟩ : ∃ g, wr.heap.size = g := ⟨_, rfl⟩
        have HGE := Lib.hid hG
        have HFG : Hid (Fr (fun k => k = b0 + 1 ∨ G ≤ k) wr V) := Lib.hid (Fr.of BV.out)
        rw [hG] at bx sV HGR ⊢
        clear hV hG BV
        have hbG : b0 + 1 < G := HGR.out.1
        have f0 : V.frozen? ⟨G, 0, none⟩ = false := bx.out.frozen _
        go_upto_region 13 with (go_at_call 46; refine (field_step (b0 + 1) l e 8 frm 1099511627776 _ _ _ rfl (by first | rfl | exact wraps_u64 _ (by omega) (by omega)) rfl (by omega) HLL (by omega) (by omega) _ HRV).mono ?_; rintro ex V1 ⟨tk, l1, e1, rfl, H1, HR1, HF1, HL1⟩)
        have c0 : V1.cell? ⟨G, 0, none⟩ = some (.int .i64 0) := (HF1.out.blk bx.out (by omega)).cell _
        have f0 : V1.frozen? ⟨G, 0, none⟩ = false := (HF1.out.blk bx.out (by omega)).frozen _
        go_upto_region 14 with fail
        obtain ⟨bx, HR1, HFq⟩ := st_step (j := 0) (u := .int .i64 tk) bx.out HF1.out HR1.out hbG
        have HFG := Lib.hid (HFG.out.trans HFq.out)
        clear c0 f0 HF1 HFq HRV
        generalize V1.setCell ⟨G, 0, none⟩ (.int .i64 tk) = V1 at bx HR1 HFG ⊢
        go_upto_region 15 with (go_at_call 46; refine (field_step (b0 + 1) l1 e1 1 0 15 _ _ _ rfl rfl rfl (by omega) HL1 (by omega) (by omega) _ HR1).mono ?_; rintro ex V2 ⟨nd, l2, e2, rfl, H2, HR2, HF2, HL2⟩; have c0 : V2.cell? ⟨G, 1, none⟩ = some (.int .i64 0) := (HF2.out.blk bx.out (by omega)).cell _; have f0 : V2.frozen? ⟨G, 1, none⟩ = false := (HF2.out.blk bx.out (by omega)).frozen _)
        obtain ⟨bx, HR2, HFq⟩ := st_step (j := 1) (u := .int .i64 nd) bx.out HF2.out HR2.out hbG
        have HFG := Lib.hid (HFG.out.trans HFq.out)
        clear c0 f0 HF2 HFq HR1
        generalize V2.setCell ⟨G, 1, none⟩ (.int .i64 nd) = V2 at bx HR2 HFG ⊢
        go_upto_region 16 with (go_at_call 46; refine (field_step (b0 + 1) l2 e2 1 0 1 _ _ _ rfl rfl rfl (by omega) HL2 (by omega) (by omega) _ HR2).mono ?_; rintro ex V3 ⟨ov, l3, e3, rfl, H3, HR3, HF3, HL3⟩; have c0 : V3.cell? ⟨G, 2, none⟩ = some (.bool false) := (HF3.out.blk bx.out (by omega)).cell _; have f0 : V3.frozen? ⟨G, 2, none⟩ = false := (HF3.out.blk bx.out (by omega)).frozen _)
        obtain ⟨bx, HR3, HFq⟩ := st_step (j := 2) (u := .bool (ov == 1)) bx.out HF3.out HR3.out hbG
        have HFG := Lib.hid (HFG.out.trans HFq.out)
        clear c0 f0 HF3 HFq HR2
        generalize V3.setCell ⟨G, 2, none⟩ (.bool (ov == 1)) = V3 at bx HR3 HFG ⊢
        go_upto_region 17 with (go_at_call 46; refine (field_step (b0 + 1) l3 e3 4 0 65575 _ _ _ rfl rfl rfl (by omega) HL3 (by omega) (by omega) _ HR3).mono ?_; rintro ex V4 ⟨lg, l4, e4, rfl, H4, HR4, HF4, HL4⟩; have c0 : V4.cell? ⟨G, 3, none⟩ = some (.int .i64 0) := (HF4.out.blk bx.out (by omega)).cell _; have f0 : V4.frozen? ⟨G, 3, none⟩ = false := (HF4.out.blk bx.out (by omega)).frozen _)
        obtain ⟨bx, HR4, HFq⟩ := st_step (j := 3) (u := .int .i64 lg) bx.out HF4.out HR4.out hbG
        have HFG := Lib.hid (HFG.out.trans HFq.out)
        clear c0 f0 HF4 HFq HR3
        generalize V4.setCell ⟨G, 3, none⟩ (.int .i64 lg) = V4 at bx HR4 HFG ⊢
        have bo := Lib.hid (HFG.out.blk bo.out (by have := HGR.out; have := HO2.out; omega))
        have HTV := Lib.hid (HT.out.fr HFG.out (fun k hk e => by have h1 := HT.out.own.lt k hk; have h2 := HGE.out; have h3 := HO2.out; omega) (fun x hx k hk e => by have h1 := HT.out.dlt hx k hk; have h2 := HGE.out; have h3 := HO2.out; omega))
        have HVN : Hid (∀ k, v.ownBlock = some k → k < G) := Lib.hid fun k hk => by have h1 := HT.out.own.lt k hk; have h2 := HGE.out; omega
        have HTN : Hid (∀ x ∈ ds, ∀ k, x.ownBlock = some k → k < G) := Lib.hid fun x hx k hk => by have h1 := HT.out.dlt hx k hk; have h2 := HGE.out; omega
        have HFX := Lib.hid (HF.out.trans (HFG.out.mono fun k _ h => by have h3 := HGR.out; omega))
        have HRL := Lib.hid (fun (he : e = 0) s => rec_link (snap := s) (show fieldS l 0 8 frm 1099511627776 = (tk, l1, e1) by rw [← he]; exact H1.out) H2.out H3.out H4.out)
        have HST : Hid (e ≠ 0 → e4 = e) := Lib.hid fun he => by
          have h1 := H1.out; have h2 := H2.out; have h3 := H3.out; have h4 := H4.out
          rw [fieldS_stay he] at h1; injection h1 with _ h1; injection h1 with _ h1; subst h1
          rw [fieldS_stay he] at h2; injection h2 with _ h2; injection h2 with _ h2; subst h2
          rw [fieldS_stay he] at h3; injection h3 with _ h3; injection h3 with _ h3; subst h3
          rw [fieldS_stay he] at h4; injection h4 with _ h4; injection h4 with _ h4; exact h4.symm
        clear HT HF HFG H1 H2 H3 H4 HL1 HL2 HL3 HRD hmo
        by_cases he4 : e4 = 0
        · subst he4
          have he : e = 0 := by
            by_cases he : e = 0
            · exact he
            · exact absurd (HST.out he).symm he
          obtain ⟨s, cN, hsn, hs, hct, hcN, hiN, hrd⟩ := HI.out.1 he
          obtain ⟨tN, g, htk, htf, htm, hlg, hg, hrec⟩ := (HRL.out he s).2 rfl
          subst he; subst hsn; subst hct; subst htk; subst hlg
          have HREC := Lib.hid hrec
          have HREAD := Lib.hid hrd
          obtain ⟨mn, hmn⟩ : ∃ m : Nat, min (g : Int) (s : Int) = m := ⟨min g s, by omega⟩
          have HMN : Hid (min g s = mn) := Lib.hid (by omega)
          have hmn5 : mn ≤ 65575 := by omega
          clear hrec hrd HI HRL HST
          obtain ⟨p4, c4, hb4, hat4, hsl4, hlt4⟩ := HR4.out
          have k1 : V4.cell? ⟨b0 + 1, 1, none⟩ = some (.int .i64 0) := hb4.cell _
          have g3 : V4.cell? ⟨G, 3, none⟩ = some (.int .i64 g) := bx.out.cell _
          have s0 : V4.cell? ⟨o0, 0, none⟩ = some (.int .i64 s) := bo.out.cell _
          clear hb4 hat4 hsl4 hlt4
          have HTKC := Lib.hid (take_calls (b0 + 1) l4 0 mn (by omega) (Nat.le_trans HL4.out (by omega)) V4 HR4.out)
          obtain ⟨⟨f5, l5, e5⟩, hts⟩ : ∃ q, takeS l4 0 mn = q := ⟨_, rfl⟩
          have HTS := Lib.hid hts
          have HL5 : Hid (l5.length ≤ 1099511627776) := Lib.hid (by have h1 := takeS_rest l4 0 mn; rw [hts] at h1; exact Nat.le_trans h1 HL4.out)
          have HF5 : Hid (f5.length ≤ 65575) := Lib.hid (by have h1 := takeS_len l4 0 mn; rw [hts] at h1; exact Nat.le_trans h1 hmn5)
          rw [hts] at HTKC
          clear hts
          go_upto_region 19 with (first | (go_at_call 45; refine HTKC.out.mono ?_; rintro ex V5 ⟨p5, c5, rfl, hat5, hsl5, hr5, hf5⟩) | (go_at_call 47; refine (clone_calls f5 p5 _ c5 rfl (Nat.le_trans HF5.out (by omega)) hsl5 V5 hat5).mono ?_; rintro ex V6 ⟨d, rfl, hd6, hB6⟩; obtain ⟨p6, c6, rfl, _, _, _⟩ := own_bytes hd6; have bx6 := (hf5.blk bx.out (by omega)).later hB6 (by have := hf5.size; have := bx.out.lt; omega); have c0 : V6.cell? ⟨G, 4, none⟩ = some (.slice none 0 0) := bx6.cell _; have fz : V6.frozen? ⟨G, 4, none⟩ = false := bx6.frozen _))
          refine wp_named fun V7 hV7 => ?_
          have HG5 : Hid (G < V5.heap.size) := Lib.hid (by have := hf5.size; have := bx.out.lt; omega)
          have bx7 : Hid (Blk V7 G 48 #[.int .i64 tN, .int .i64 nd, .bool (ov == 1), .int .i64 g, .slice p6 f5.length c6]) := Lib.hid (by rw [hV7]; exact bx6.set_ 4 _)
          have HFy : Hid (Fr (fun k => k = b0 + 1 ∨ G ≤ k) V4 V7) := Lib.hid (by rw [hV7]; exact ((hf5.mono fun k _ e => .inl e).trans (Fr.of hB6)).trans (fr_set.mono fun k _ e => .inr (by omega)))
          have HR7 : Hid (Rdr V7 (b0 + 1) l5 e5) := Lib.hid (by rw [hV7]; exact (hr5.later hB6).fr (S := fun k => k = G) fr_set (by omega) (fun k hk e => by omega))
          have HD7 : Hid (V7.ownsRow V5.heap.size 5 1 (.slice p6 f5.length c6) f5.length (Lib.byteCells f5)) := Lib.hid (by rw [hV7]; exact ownsRow_setCell_below hd6 (by exact HG5.out) _)
          have HSZ : Hid (V5.heap.size ≤ V7.heap.size) := Lib.hid (by rw [hV7]; simpa [World.setCell] using hB6.size)
          have bo7 := Lib.hid (HFy.out.blk bo.out (by have := HGR.out; have := HO2.out; omega))
          have HT7 := Lib.hid (HTV.out.fr HFy.out (fun k hk e => by have h1 := HTV.out.own.lt k hk; have h2 := HVN.out k hk; have h3 := HO2.out; omega) (fun x hx k hk e => by have h1 := HTV.out.dlt hx k hk; have h2 := HTN.out x hx k hk; have h3 := HO2.out; omega))
          have HF7 := Lib.hid (HFX.out.trans (HFy.out.mono fun k _ h => by have h3 := HGR.out; omega))
          clear hV7 hd6 hB6 hr5 hat5 hsl5 hf5 bx6 c0 fz k1 g3 s0 HFX HFy HTV bo bx HTKC HR4
          obtain ⟨p7, c7, hb7, hat7, hsl7, hlt7⟩ := HR7.out
          have k1 : V7.cell? ⟨b0 + 1, 1, none⟩ = some (.int .i64 e5) := hb7.cell _
          clear hb7 hat7 hsl7 hlt7
          obtain ⟨m, hm⟩ : ∃ m, cN - i = m + 1 := ⟨cN - i - 1, by omega⟩
          have HMI := Lib.hid hm
          have HTS2 : Hid (if l4.length < mn then f5 = [] ∧ l5 = l4 ∧ e5 = 20 else f5 = l4.take mn ∧ l5 = l4.drop mn ∧ e5 = 0) := Lib.hid (by
            have h1 := HTS.out
            unfold takeS at h1
            rw [if_neg (by simp)] at h1
            by_cases h2 : l4.length < mn
            · rw [if_pos h2] at h1 ⊢; injection h1 with h3 h4; injection h4 with h4 h5; exact ⟨h3.symm, h4.symm, h5.symm⟩
            · rw [if_neg h2] at h1 ⊢; injection h1 with h3 h4; injection h4 with h4 h5; exact ⟨h3.symm, h4.symm, h5.symm⟩)
          by_cases he5 : e5 = 0
          · subst he5
            obtain ⟨hf5, hl5⟩ : f5 = l4.take mn ∧ l5 = l4.drop mn := by
              have h1 := HTS2.out
              by_cases h2 : l4.length < mn
              · rw [if_pos h2] at h1; omega
              · rw [if_neg h2] at h1; exact ⟨h1.1, h1.2.1⟩
            have HNX : Hid (readE b = tailE s (acc ++ [⟨tN, nd, ov == 1, g, f5⟩]) (recsE s m tN l5)) := Lib.hid (by
              have h1 := HTS2.out
              have h2 : ¬ l4.length < mn := fun h => by rw [if_pos h] at h1; omega
              rw [HREAD.out, HMI.out, recsE, HREC.out, HMN.out, if_neg h2]
              simp only [Int.toNat_natCast]
              rw [← hf5, ← hl5]
              cases recsE s m tN l5 with
              | error c => rfl
              | ok q => obtain ⟨rs, l9⟩ := q; simp [tailE])
            clear hf5 hl5 hm
            obtain ⟨fl5, hfl5⟩ : ∃ q, f5.length = q := ⟨_, rfl⟩
            have HFL := Lib.hid hfl5
            rw [hfl5] at bx7 HD7 ⊢
            have r0 : V7.cell? ⟨G, 0, none⟩ = some (.int .i64 tN) := bx7.out.cell _
            have r1 : V7.cell? ⟨G, 1, none⟩ = some (.int .i64 nd) := bx7.out.cell _
            have r2 : V7.cell? ⟨G, 2, none⟩ = some (.bool (ov == 1)) := bx7.out.cell _
            have r3 : V7.cell? ⟨G, 3, none⟩ = some (.int .i64 g) := bx7.out.cell _
            have r4 : V7.cell? ⟨G, 4, none⟩ = some (.slice p6 fl5 c6) := bx7.out.cell _
            have o1 : V7.cell? ⟨o0, 1, none⟩ = some v := bo7.out.cell _
            have HOW : Hid (V7.ownsRow (o0 + 1) 48 5 v i (cellsR acc ds)) := Lib.hid (by have := HT7.out.own; rwa [HAC.out] at this)
            have HSA : Hid (o0 + 1 ≤ V7.heap.size) := Lib.hid (by have := HSZ.out; have := HG5.out; have := HGR.out; omega)
            clear hfl5
            go_upto_region 21 with (at_builtin; refine wpList_append_two rfl _ _ 22 rfl 48 i0 _ 5 56 Tryz.underlying22 hi hz0 hz1 hz2 (by rfl) (by omega) (o0 + 1) v i _ rfl (World.ownsRow.alloc HOW.out _) ⟨V7.heap.size, 0, none⟩ 1 1 (recC ⟨tN, nd, ov == 1, g, f5⟩ (.slice p6 fl5 c6)) rfl rfl (news_of _ _ _) (recC_one _ _ _ _) (by omega) (by unfold maxLen; omega) (by omega) (by have := HSA.out; simp; omega) ?_; intro g2 cap w1 hown hgr hlt2; have bm := HT7.out.mid (Below.refl _ _) (show o0 < o0 + 1 by omega) _ hgr bo7.out; have m1 : w1.cell? ⟨o0, 1, none⟩ = some v := bm.cell _; have fm : w1.frozen? ⟨o0, 1, none⟩ = false := bm.frozen _; clear bm)
            obtain ⟨q1, q2, q3⟩ := HT7.out.step2 HAC.out (fun x hx k hk => Nat.lt_trans (HTN.out x hx k hk) HG5.out) (by have := HGR.out; have := HG5.out; omega) (show o0 < o0 + 1 by omega) ⟨tN, nd, ov == 1, g, f5⟩ _ (by show V7.ownsRow _ _ _ _ f5.length _; rw [HFL.out]; exact HD7.out) _ hown hgr
            have HR8 := Lib.hid (HR7.out.fr q2.out (by have := HO2.out; intro h; rcases h with h | h <;> omega) (fun k hk e => by have := HO2.out; rcases e with e | e <;> omega))
            have HF8 := Lib.hid (HF7.out.trans (q2.out.mono fun k _ e => .inr (by rcases e with e | e <;> omega)))
            have bo8 := q3 _ _ bo7.out
            have hlen : Hid ((acc ++ [(⟨tN, nd, ov == 1, g, f5⟩ : Rec)]).length = i + 1) := Lib.hid (by rw [List.length_append, HAC.out]; rfl)
            have HI2 : Hid ((0 : Int) = 0 → ∃ s' c' : Nat, (s : Int) = s' ∧ s' ≤ 65575 ∧ (cN : Int) = c' ∧ c' ≤ 4096 ∧ i + 1 ≤ c' ∧ readE b = tailE s' (acc ++ [⟨tN, nd, ov == 1, g, f5⟩]) (recsE s' (c' - (i + 1)) tN l5)) := Lib.hid (fun _ => ⟨s, cN, rfl, hs, rfl, hcN, by have := HLT.out; omega, by rw [show cN - (i + 1) = m by have := HMI.out; omega]; exact HNX.out⟩)
            have hi5 : i + 1 ≤ 4096 := by have := HLT.out; omega
            clear hown hgr q2 q3
            generalize w1.setCell ⟨o0, 1, none⟩ (.slice (some ⟨g2, 0, none⟩) (i + 1) cap) = Z4 at q1 bo8 HF8 HR8 ⊢
            go_wp2
            exact ⟨⟨i + 1, tN, l5, 0, _, _, acc ++ [⟨tN, nd, ov == 1, g, f5⟩], by go_num, rfl, htm, hi5, hlen, HR8, bo8, q1, HF8, HL5, Lib.hid ⟨HI2.out, fun h => absurd rfl h⟩⟩, by have := HLT.out; simp [intOf]; omega⟩
          · have he20 : e5 = 20 := by
              have h1 := HTS2.out
              by_cases h2 : l4.length < mn
              · rw [if_pos h2] at h1; exact h1.2.2
              · rw [if_neg h2] at h1; exact absurd h1.2.2 he5
            subst he20
            have HER : Hid (readE b = .error 20) := Lib.hid (by
              have h1 := HTS2.out
              have h2 : l4.length < mn := by
                by_cases h : l4.length < mn
                · exact h
                · rw [if_neg h] at h1; omega
              rw [HREAD.out, HMI.out, recsE, HREC.out, HMN.out, if_pos h2]; rfl)
            clear hm
            go_wp2
            go_meet
            case rel => exact ⟨l5, 20, v, ds, acc, HR7, bo7, HT7, HF7, HL5, Lib.hid ⟨fun h => absurd h (by decide), fun _ => HER.out⟩⟩
        · have HER : Hid (readE b = .error e4) := Lib.hid (by
            by_cases he : e = 0
            · obtain ⟨s, cN, hsn, hs, hct, hcN, hiN, hrd⟩ := HI.out.1 he
              obtain ⟨m, hm⟩ : ∃ m, cN - i = m + 1 := ⟨cN - i - 1, by omega⟩
              rw [hrd, hm, recsE, (HRL.out he s).1 he4]; rfl
            · rw [HST.out he]; exact (HI.out.2 he).2)
          obtain ⟨p4, c4, hb4, hat4, hsl4, hlt4⟩ := HR4.out
          have k1 : V4.cell? ⟨b0 + 1, 1, none⟩ = some (.int .i64 e4) := hb4.cell _
          have y1 : (e4 == 0) = false := beq_eq_false_iff_ne.2 he4
          have y2 : (e4 != 0) = true := bne_iff_ne.2 he4
          have HE4 := Lib.hid he4
          clear hb4 hat4 hsl4 hlt4 he4
          go_wp2
          go_meet
          case rel => exact ⟨l4, e4, v, ds, acc, HR4, bo, HTV, HFX, HL4, Lib.hid ⟨fun h => absurd h HE4.out, fun _ => HER.out⟩⟩
      · have x1 : decide ((i : Int) < ct) = false := decide_eq_false hlt
        have HE : Hid ((e = 0 → ∃ s : Nat, sn = s ∧ s ≤ 65575 ∧ readE b = tailE s acc (.ok ([], l))) ∧ (e ≠ 0 → readE b = .error e)) := Lib.hid ⟨fun he => by
          obtain ⟨s, cN, hsn, hs, hct, hcN, hiN, hrd⟩ := HI.out.1 he
          exact ⟨s, hsn, hs, by rw [hrd, show cN - i = 0 by omega]; rfl⟩, fun he => (HI.out.2 he).2⟩
        clear hlt
        go_wp2
        go_meet
        case rel => exact ⟨l, e, v, ds, acc, HRD, bo, HT, HF, HLL, HE⟩
  case rest =>
  clear HR3 bo HF HL3 HHL
  obtain ⟨l, e, v, ds, acc, HRD, bo, HT, HF, HLL, HE⟩ := hcut
  have hT := HT.out
  obtain ⟨pv, cv, hv, _, _, _⟩ := hT.rat
  obtain ⟨an, han⟩ : ∃ k, acc.length = k := ⟨_, rfl⟩
  rw [han] at hv
  subst hv
  have HBW : Hid (Below w.heap.size w wc) := Lib.hid (HBX.out.trans (HF.out.below (fun k hk e => by have := HBE.out; have := HO2.out; omega) HBX.out.size))
  have bq := Lib.hid (HF.out.blk bq.out (by have := HO2.out; omega))
  obtain ⟨p7, c7, hb7, hat7, hsl7, hlt7⟩ := HRD.out
  obtain ⟨ln, hln⟩ : ∃ k, l.length = k := ⟨_, rfl⟩
  have HLN := Lib.hid hln
  have k1 : wc.cell? ⟨b0 + 1, 1, none⟩ = some (.int .i64 e) := hb7.cell _
  have f1 : wc.frozen? ⟨b0 + 1, 1, none⟩ = false := hb7.frozen _
  have k0 : wc.cell? ⟨b0 + 1, 0, none⟩ = some (.slice p7 ln c7) := by rw [← hln]; exact hb7.cell _
  have HB7 := Lib.hid hb7
  have q0 : wc.cell? ⟨b0, 0, none⟩ = some (.int .i64 0) := bq.out.cell _
  have q1 : wc.cell? ⟨b0, 1, none⟩ = some (.slice none 0 0) := bq.out.cell _
  have g0 : wc.frozen? ⟨b0, 0, none⟩ = false := bq.out.frozen _
  have g1 : wc.frozen? ⟨b0, 1, none⟩ = false := bq.out.frozen _
  have o0c : wc.cell? ⟨o0, 0, none⟩ = some (.int .i64 sn) := bo.out.cell _
  have o1c : wc.cell? ⟨o0, 1, none⟩ = some (.slice pv an cv) := bo.out.cell _
  clear hb7 hat7 hsl7 hlt7 hln hT han
  by_cases he : e = 0
  · subst he
    obtain ⟨s, rfl, hs, hrd⟩ := HE.out.1 rfl
    have HRE := Lib.hid hrd
    clear hrd HE
    by_cases hl0 : 0 < ln
    · have x1 : decide ((0 : Int) < (ln : Int)) = true := decide_eq_true (by omega)
      have x1' : decide (0 < ln) = true := decide_eq_true hl0
      have HVV : Hid (readV8 b = (⟨0, []⟩, 21)) := Lib.hid (by
        unfold readV8
        rw [HRE.out]
        simp only [tailE]
        rw [if_neg (by intro h; have := HLN.out; rw [h] at this; simp at this; omega)])
      clear hl0
      go_upto_region 24 with fail
      refine wp_named fun Y hY => ?_
      have k1 : Y.cell? ⟨b0 + 1, 1, none⟩ = some (.int .i64 21) := by rw [hY]; exact (HB7.out.set_ 1 (.int .i64 21)).cell _
      have hYf : Fr (fun k => k = b0 + 1) wc Y := by rw [hY]; exact fr_set
      have bq := Lib.hid (hYf.blk bq.out (by omega))
      have q0 : Y.cell? ⟨b0, 0, none⟩ = some (.int .i64 0) := bq.out.cell _
      have q1 : Y.cell? ⟨b0, 1, none⟩ = some (.slice none 0 0) := bq.out.cell _
      have g0 : Y.frozen? ⟨b0, 0, none⟩ = false := bq.out.frozen _
      have g1 : Y.frozen? ⟨b0, 1, none⟩ = false := bq.out.frozen _
      have HYB : Hid (Below w.heap.size w Y) := Lib.hid (HBW.out.trans (hYf.below (fun k hk e => by have := HBE.out; omega) HBW.out.size))
      clear hY hYf
      go_upto_region 25 with fail
      refine region_T (fun z => z.cell? ⟨b0 + 1, 1, none⟩ = some (.int .i64 21)) (fun _ => false) (by kernel_rfl) ?_
      refine anyT_named (W0 := Y) ((Below.refl _ _).drew) fun Z hZ => ?_
      have hS : Z.cell? ⟨b0 + 1, 1, none⟩ = some (.int .i64 21) := (hZ.cell (World.block_lt_of_cell? _ _ k1)).trans k1
      have bq := Lib.hid (bq.out.later hZ bq.out.lt)
      have HYB := keep HYB hZ
      have HTZ : Hid (TO Z (b0 + 1) (.slice none 0 0) [] []) := Lib.hid (TO.nil _ _)
      clear hZ k1 q0 q1 g0 g1
      refine anyT_take 0 (.agg #[.int .i64 0, .slice none 0 0]) rfl (by kernel_rfl) (by kernel_rfl) (by kernel_rfl) (by kernel_rfl) (fun _ _ _ h => h) rfl (fun w hw => ?_) hS ?_
      · go_simp; try rfl
      simp only [Act.put, List.getElem_toArray, List.getElem_cons_succ, List.getElem_cons_zero, List.setIfInBounds_toArray, List.set_cons_zero, List.set_cons_succ]
      refine anyT_take 1 (.pointer (some ⟨b0 + 1, 0, none⟩)) rfl (by kernel_rfl) (by kernel_rfl) (by kernel_rfl) (by kernel_rfl) (fun _ _ _ h => h) rfl (fun w hw => ?_) hS ?_
      · go_simp; try rfl
      simp only [Act.put, List.getElem_toArray, List.getElem_cons_succ, List.getElem_cons_zero, List.setIfInBounds_toArray, List.set_cons_zero, List.set_cons_succ]
      refine anyT_take 2 (.pointer (some ⟨b0 + 1, 0, none⟩)) rfl (by kernel_rfl) (by kernel_rfl) (by kernel_rfl) (by kernel_rfl) (fun _ _ _ h => h) rfl (fun w hw => ?_) hS ?_
      · go_simp; try rfl
      simp only [Act.put, List.getElem_toArray, List.getElem_cons_succ, List.getElem_cons_zero, List.setIfInBounds_toArray, List.set_cons_zero, List.set_cons_succ]
      refine anyT_take 3 (.pointer (some ⟨b0 + 1, 1, none⟩)) rfl (by kernel_rfl) (by kernel_rfl) (by kernel_rfl) (by kernel_rfl) (fun _ _ _ h => h) rfl (fun w hw => ?_) hS ?_
      · go_simp; try rfl
      simp only [Act.put, List.getElem_toArray, List.getElem_cons_succ, List.getElem_cons_zero, List.setIfInBounds_toArray, List.set_cons_zero, List.set_cons_succ]
      refine anyT_take 4 (.int .i64 21) rfl (by kernel_rfl) (by kernel_rfl) (by kernel_rfl) (by kernel_rfl) (fun _ _ _ h => h) rfl (fun w hw => ?_) hS ?_
      · go_simp; try rfl
      simp only [Act.put, List.getElem_toArray, List.getElem_cons_succ, List.getElem_cons_zero, List.setIfInBounds_toArray, List.set_cons_zero, List.set_cons_succ]
      refine anyT_step 5 (by kernel_rfl) rfl rfl ?_
      refine wp_store_tape _ _ rfl b0 0 none 0 0 rfl rfl _ _ bq.out ?_
      obtain ⟨z1, z2, z3⟩ := tape_fin (w := w) 0 bq.out HTZ.out (by omega) HYB.out (by rw [HBE.out]; omega) (by rw [HBE.out]; omega)
      have hS2 : ((Z.setCell ⟨b0, 0, none⟩ (.int .i64 0)).setCell ⟨b0, 1, none⟩ (.slice none 0 0)).cell? ⟨b0 + 1, 1, none⟩ = some (.int .i64 21) := (Fr.trans (S := fun k => k = b0) fr_set fr_set).cell hS (by show ¬ b0 + 1 = b0; omega)
      refine ⟨.inr hS2, ?_⟩
      simp only [Act.put, List.getElem_toArray, List.getElem_cons_succ, List.getElem_cons_zero, List.setIfInBounds_toArray, List.set_cons_zero, List.set_cons_succ]
      refine anyT_take 6 (.int .i64 21) rfl (by kernel_rfl) (by kernel_rfl) (by kernel_rfl) (by kernel_rfl) (fun _ _ _ h => h) rfl (fun w hw => ?_) hS2 ?_
      · go_simp; try rfl
      simp only [Act.put, List.getElem_toArray, List.getElem_cons_succ, List.getElem_cons_zero, List.setIfInBounds_toArray, List.set_cons_zero, List.set_cons_succ]
      refine anyT_done (by kernel_rfl) ?_
      generalize (Z.setCell ⟨b0, 0, none⟩ (.int .i64 0)).setCell ⟨b0, 1, none⟩ (.slice none 0 0) = Z4 at z1 z2 z3 ⊢
      go_wp2
      refine bodyPost_ret (v := .tuple #[.agg #[.int .i64 0, .slice none 0 0], .int .i64 21]) (by exact results_cell2 (fn := Tryz.f18) rfl _ _ b0 24 _ _ rfl z1 Tryz.underlying24 rfl tape_size) rfl ⟨.slice none 0 0, [], by rw [HVV.out], by rw [HVV.out]; exact z2, z3⟩
    · have x1 : decide ((0 : Int) < (ln : Int)) = false := decide_eq_false (by omega)
      have x1' : decide (0 < ln) = false := decide_eq_false hl0
      have HVV : Hid (readV8 b = (⟨s, acc⟩, 0)) := Lib.hid (by
        unfold readV8
        rw [HRE.out]
        simp only [tailE]
        rw [if_pos (List.eq_nil_of_length_eq_zero (by rw [HLN.out]; omega))]
        simp)
      clear hl0
      go_wp2
      obtain ⟨z1, z2, z3⟩ := tape_fin (w := w) s bq.out HT.out (by have := HO2.out; omega) HBW.out (by rw [HBE.out]; omega) (by rw [HBE.out]; have := HO2.out; omega)
      refine bodyPost_ret (v := .tuple #[.agg #[.int .i64 s, .slice pv an cv], .int .i64 0]) (by exact results_cell2 (fn := Tryz.f18) rfl _ _ b0 24 _ _ rfl z1 Tryz.underlying24 rfl tape_size) rfl ⟨.slice pv an cv, ds, by rw [HVV.out], by rw [HVV.out]; exact z2, z3⟩
  · have HVV : Hid (readV8 b = (⟨0, []⟩, e)) := Lib.hid (by unfold readV8; rw [HE.out.2 he])
    have y1 : (e == 0) = false := beq_eq_false_iff_ne.2 he
    have y2 : (e != 0) = true := bne_iff_ne.2 he
    clear he
    go_upto_region 24 with fail
    refine wp_named fun Y hY => ?_
    have k1 : Y.cell? ⟨b0 + 1, 1, none⟩ = some (.int .i64 e) := by rw [hY]; exact k1
    have hYf : Fr (fun k => k = b0 + 1) wc Y := by rw [hY]; exact Fr.refl _ _
    have bq := Lib.hid (hYf.blk bq.out (by omega))
    have q0 : Y.cell? ⟨b0, 0, none⟩ = some (.int .i64 0) := bq.out.cell _
    have q1 : Y.cell? ⟨b0, 1, none⟩ = some (.slice none 0 0) := bq.out.cell _
    have g0 : Y.frozen? ⟨b0, 0, none⟩ = false := bq.out.frozen _
    have g1 : Y.frozen? ⟨b0, 1, none⟩ = false := bq.out.frozen _
    have HYB : Hid (Below w.heap.size w Y) := Lib.hid (HBW.out.trans (hYf.below (fun k hk e => by have := HBE.out; omega) HBW.out.size))
    clear hY hYf
    go_upto_region 25 with fail
    refine region_T (fun z => z.cell? ⟨b0 + 1, 1, none⟩ = some (.int .i64 e)) (fun _ => false) (by kernel_rfl) ?_
    refine anyT_named (W0 := Y) ((Below.refl _ _).drew) fun Z hZ => ?_
    have hS : Z.cell? ⟨b0 + 1, 1, none⟩ = some (.int .i64 e) := (hZ.cell (World.block_lt_of_cell? _ _ k1)).trans k1
    have bq := Lib.hid (bq.out.later hZ bq.out.lt)
    have HYB := keep HYB hZ
    have HTZ : Hid (TO Z (b0 + 1) (.slice none 0 0) [] []) := Lib.hid (TO.nil _ _)
    clear hZ k1 q0 q1 g0 g1
    refine anyT_take 0 (.agg #[.int .i64 0, .slice none 0 0]) rfl (by kernel_rfl) (by kernel_rfl) (by kernel_rfl) (by kernel_rfl) (fun _ _ _ h => h) rfl (fun w hw => ?_) hS ?_
    · go_simp; try rfl
    simp only [Act.put, List.getElem_toArray, List.getElem_cons_succ, List.getElem_cons_zero, List.setIfInBounds_toArray, List.set_cons_zero, List.set_cons_succ]
    refine anyT_take 1 (.pointer (some ⟨b0 + 1, 0, none⟩)) rfl (by kernel_rfl) (by kernel_rfl) (by kernel_rfl) (by kernel_rfl) (fun _ _ _ h => h) rfl (fun w hw => ?_) hS ?_
    · go_simp; try rfl
    simp only [Act.put, List.getElem_toArray, List.getElem_cons_succ, List.getElem_cons_zero, List.setIfInBounds_toArray, List.set_cons_zero, List.set_cons_succ]
    refine anyT_take 2 (.pointer (some ⟨b0 + 1, 0, none⟩)) rfl (by kernel_rfl) (by kernel_rfl) (by kernel_rfl) (by kernel_rfl) (fun _ _ _ h => h) rfl (fun w hw => ?_) hS ?_
    · go_simp; try rfl
    simp only [Act.put, List.getElem_toArray, List.getElem_cons_succ, List.getElem_cons_zero, List.setIfInBounds_toArray, List.set_cons_zero, List.set_cons_succ]
    refine anyT_take 3 (.pointer (some ⟨b0 + 1, 1, none⟩)) rfl (by kernel_rfl) (by kernel_rfl) (by kernel_rfl) (by kernel_rfl) (fun _ _ _ h => h) rfl (fun w hw => ?_) hS ?_
    · go_simp; try rfl
    simp only [Act.put, List.getElem_toArray, List.getElem_cons_succ, List.getElem_cons_zero, List.setIfInBounds_toArray, List.set_cons_zero, List.set_cons_succ]
    refine anyT_take 4 (.int .i64 e) rfl (by kernel_rfl) (by kernel_rfl) (by kernel_rfl) (by kernel_rfl) (fun _ _ _ h => h) rfl (fun w hw => ?_) hS ?_
    · go_simp; try rfl
    simp only [Act.put, List.getElem_toArray, List.getElem_cons_succ, List.getElem_cons_zero, List.setIfInBounds_toArray, List.set_cons_zero, List.set_cons_succ]
    refine anyT_step 5 (by kernel_rfl) rfl rfl ?_
    refine wp_store_tape _ _ rfl b0 0 none 0 0 rfl rfl _ _ bq.out ?_
    obtain ⟨z1, z2, z3⟩ := tape_fin (w := w) 0 bq.out HTZ.out (by omega) HYB.out (by rw [HBE.out]; omega) (by rw [HBE.out]; omega)
    have hS2 : ((Z.setCell ⟨b0, 0, none⟩ (.int .i64 0)).setCell ⟨b0, 1, none⟩ (.slice none 0 0)).cell? ⟨b0 + 1, 1, none⟩ = some (.int .i64 e) := (Fr.trans (S := fun k => k = b0) fr_set fr_set).cell hS (by show ¬ b0 + 1 = b0; omega)
    refine ⟨.inr hS2, ?_⟩
    simp only [Act.put, List.getElem_toArray, List.getElem_cons_succ, List.getElem_cons_zero, List.setIfInBounds_toArray, List.set_cons_zero, List.set_cons_succ]
    refine anyT_take 6 (.int .i64 e) rfl (by kernel_rfl) (by kernel_rfl) (by kernel_rfl) (by kernel_rfl) (fun _ _ _ h => h) rfl (fun w hw => ?_) hS2 ?_
    · go_simp; try rfl
    simp only [Act.put, List.getElem_toArray, List.getElem_cons_succ, List.getElem_cons_zero, List.setIfInBounds_toArray, List.set_cons_zero, List.set_cons_succ]
    refine anyT_done (by kernel_rfl) ?_
    generalize (Z.setCell ⟨b0, 0, none⟩ (.int .i64 0)).setCell ⟨b0, 1, none⟩ (.slice none 0 0) = Z4 at z1 z2 z3 ⊢
    go_wp2
    refine bodyPost_ret (v := .tuple #[.agg #[.int .i64 0, .slice none 0 0], .int .i64 e]) (by exact results_cell2 (fn := Tryz.f18) rfl _ _ b0 24 _ _ rfl z1 Tryz.underlying24 rfl tape_size) rfl ⟨.slice none 0 0, [], by rw [HVV.out], by rw [HVV.out]; exact z2, z3⟩
end Go.Proofs.YtpciggnanlflkaaGreatDoor.Ad
