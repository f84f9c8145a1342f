/- Contract of the laws' sameTape. Conditions: the lists have fewer than 2^32 records. -/
import Derived.Test.YtpciggnanlflkaaGreatDoorWh
namespace Go.Proofs.YtpciggnanlflkaaGreatDoor.Ad
set_option linter.unusedVariables false
set_option linter.unusedSimpArgs false
open Go.RowKit Go.Maps W
theorem recs_eq {l m : List Rec} {n : Nat} (hl : l.length = n) (hm : m.length = n) (h : ∀ j, j < n → l[j]? = m[j]?) : l = m :=
  List.ext_getElem? fun j => by
    by_cases hj : j < n
    · exact h j hj
    · rw [List.getElem?_eq_none (by omega), List.getElem?_eq_none (by omega)]
theorem tp_eq {a b : Tp} : a = b ↔ a.snap = b.snap ∧ a.recs = b.recs := by
  constructor
  · intro h; rw [h]; exact ⟨rfl, rfl⟩
  · obtain ⟨s, l⟩ := a; obtain ⟨s', l'⟩ := b; rintro ⟨h1, h2⟩; simp only at h1 h2; rw [h1, h2]
set_option maxRecDepth 100000 in
set_option maxHeartbeats 4000000 in
theorem sameTape_calls (a b : Tp) (p q : Option Go.Addr) (c d : Nat) (w : World) (hp : RAt w p a.recs) (hq : RAt w q b.recs) (hl : a.recs.length ≤ 4294967296) (hm : b.recs.length ≤ 4294967296) :
    Calls Tryz.prog 23 #[.agg #[.int .i64 a.snap, .slice p a.recs.length c], .agg #[.int .i64 b.snap, .slice q b.recs.length d]] w fun e w' => e = .returned (.bool (decide (a = b))) ∧ Below w.heap.size w w' := by
  have HP := Lib.hid hp
  have HQ := Lib.hid hq
  obtain ⟨z, hz⟩ : ∃ z, decide (a = b) = z := ⟨_, rfl⟩
  have HZ0 := Lib.hid hz
  rw [hz]
  obtain ⟨n, hn⟩ : ∃ n, a.recs.length = n := ⟨_, rfl⟩
  have HN := Lib.hid hn
  obtain ⟨m, hm'⟩ : ∃ n, b.recs.length = n := ⟨_, rfl⟩
  have HM := Lib.hid hm'
  obtain ⟨sa, hsa⟩ : ∃ n, a.snap = n := ⟨_, rfl⟩
  have HSA := Lib.hid hsa
  obtain ⟨sb, hsb⟩ : ∃ n, b.snap = n := ⟨_, rfl⟩
  have HSB := Lib.hid hsb
  rw [hn, hm', hsa, hsb]
  rw [hn] at hl
  clear hp hq hn hm' hsa hsb hz hm
  go_enter Tryz.func23, Tryz.ntmps23
  go_upto_region 1 with fail
  refine wp_named fun W hW => ?_
  obtain ⟨ba, bb, BW, sW⟩ := box2 hW
  have a0 : W.cell? ⟨w.heap.size, 0, none⟩ = some (.int .i64 sa) := ba.out.cell _
  have a1 : W.cell? ⟨w.heap.size, 1, none⟩ = some (.slice p n c) := ba.out.cell _
  have b0 : W.cell? ⟨w.heap.size + 1, 0, none⟩ = some (.int .i64 sb) := bb.out.cell _
  have b1 : W.cell? ⟨w.heap.size + 1, 1, none⟩ = some (.slice q m d) := bb.out.cell _
  clear hW
  by_cases hs : sa = sb
  · by_cases hnm : n = m
    · subst hs; subst hnm
      have e0 : ((n : Int) != (n : Int)) = false := bne_self_eq_false _
      have e1 : (sa != sa) = false := bne_self_eq_false _
      have HZ : Hid (decide (a.recs = b.recs) = z) := Lib.hid (by rw [← HZ0.out, decide_eq_decide, tp_eq, HSA.out, HSB.out]; simp)
      clear HZ0
      go_upto_region 4 with fail
      clear a0 b0 a1 b1
      go_loopw [5, 6, 7] (fun u5 _ _ wr => ∃ k : Nat, u5 = .int .i64 k ∧ k ≤ n ∧ Hid (∀ j, j < k → a.recs[j]? = b.recs[j]?) ∧ Hid (Below W.heap.size W wr)) (fun u5 _ _ _ => n - (intOf u5).toNat)
      case atStart => exact ⟨0, rfl, Nat.zero_le _, Lib.hid (fun j hj => absurd hj (Nat.not_lt_zero j)), Lib.hid (Below.refl _ _)⟩
      case round =>
        obtain ⟨k, rfl, hk, HEQ, HB⟩ := hrel
        have HBW := keep BW HB.out
        have a1 : wr.cell? ⟨w.heap.size, 1, none⟩ = some (.slice p n c) := (ba.out.later HB.out ba.out.lt).cell _
        have b1 : wr.cell? ⟨w.heap.size + 1, 1, none⟩ = some (.slice q n d) := (bb.out.later HB.out bb.out.lt).cell _
        by_cases hlt : k < n
        · have x1 : decide ((k : Int) < (n : Int)) = true := decide_eq_true (by omega)
          have x1' : decide (k < n) = true := decide_eq_true hlt
          have HK : Hid (k < a.recs.length) := Lib.hid (by have := HN.out; omega)
          have HKM : Hid (k < b.recs.length) := Lib.hid (by have := HM.out; omega)
          obtain ⟨r, hr⟩ : ∃ r, a.recs[k]? = some r := ⟨_, List.getElem?_eq_getElem HK.out⟩
          obtain ⟨r', hr'⟩ : ∃ r, b.recs[k]? = some r := ⟨_, List.getElem?_eq_getElem HKM.out⟩
          have HRR := Lib.hid hr
          have HQQ := Lib.hid hr'
          obtain ⟨g, o, rfl, hgl, pd, cd, hr5, hbd, _⟩ := own_cellsB (HP.out.later HBW.out) hr
          obtain ⟨g2, o2, rfl, hgl2, pd2, cd2, hr52, hbd2, _⟩ := own_cellsB (HQ.out.later HBW.out) hr'
          have HDA := Lib.hid hbd
          have HDB := Lib.hid hbd2
          clear hr hr' hgl hgl2 hbd hbd2
          obtain ⟨tk, nd, ou, lg, dt⟩ := r
          obtain ⟨tk2, nd2, ou2, lg2, dt2⟩ := r'
          have d0 : wr.cell? ⟨g, o + k * 5, none⟩ = some (.int .i64 tk) := hr5 0 _ rfl
          have d1 : wr.cell? ⟨g, o + k * 5 + 1, none⟩ = some (.int .i64 nd) := hr5 1 _ rfl
          have d2 : wr.cell? ⟨g, o + k * 5 + 2, none⟩ = some (.bool ou) := hr5 2 _ rfl
          have d3 : wr.cell? ⟨g, o + k * 5 + 3, none⟩ = some (.int .i64 lg) := hr5 3 _ rfl
          have d4 : wr.cell? ⟨g, o + k * 5 + 4, none⟩ = some (.slice pd dt.length cd) := hr5 4 _ rfl
          have k0 : wr.cell? ⟨g2, o2 + k * 5, none⟩ = some (.int .i64 tk2) := hr52 0 _ rfl
          have k1 : wr.cell? ⟨g2, o2 + k * 5 + 1, none⟩ = some (.int .i64 nd2) := hr52 1 _ rfl
          have k2 : wr.cell? ⟨g2, o2 + k * 5 + 2, none⟩ = some (.bool ou2) := hr52 2 _ rfl
          have k3 : wr.cell? ⟨g2, o2 + k * 5 + 3, none⟩ = some (.int .i64 lg2) := hr52 3 _ rfl
          have k4 : wr.cell? ⟨g2, o2 + k * 5 + 4, none⟩ = some (.slice pd2 dt2.length cd2) := hr52 4 _ rfl
          have HSM := Lib.hid (same_calls dt dt2 pd pd2 dt.length dt2.length cd cd2 rfl rfl)
          obtain ⟨dn, hdn⟩ : ∃ q, dt.length = q := ⟨_, rfl⟩
          rw [hdn] at d4 HSM
          obtain ⟨dm, hdm⟩ : ∃ q, dt2.length = q := ⟨_, rfl⟩
          rw [hdm] at k4 HSM
          clear hr5 hr52 hdn hdm
          go_upto_region 7 with fail
          refine wp_named fun V hV => ?_
          obtain ⟨v1, BV, sV⟩ := box1 hV
          have HBV := Lib.hid (HB.out.trans (BV.out.mono HB.out.size))
          have HBWV := Lib.hid (HBW.out.trans (BV.out.mono HBW.out.size))
          have HDA := Lib.hid (HDA.out.later BV.out)
          have HDB := Lib.hid (HDB.out.later BV.out)
          have b1 := (BV.out.cell (World.block_lt_of_cell? _ _ b1)).trans b1
          have k0 := (BV.out.cell (World.block_lt_of_cell? _ _ k0)).trans k0
          have k1 := (BV.out.cell (World.block_lt_of_cell? _ _ k1)).trans k1
          have k2 := (BV.out.cell (World.block_lt_of_cell? _ _ k2)).trans k2
          have k3 := (BV.out.cell (World.block_lt_of_cell? _ _ k3)).trans k3
          have k4 := (BV.out.cell (World.block_lt_of_cell? _ _ k4)).trans k4
          obtain ⟨G, hG⟩ : ∃ g, wr.heap.size = g := ⟨_, rfl⟩
          rw [hG] at v1 sV ⊢
          clear hV hG a1 d0 d1 d2 d3 d4 BV
          go_upto_region 8 with fail
          refine wp_named fun V' hV' => ?_
          obtain ⟨v2, BV, sV2⟩ := box1 hV'
          have HBV := Lib.hid (HBV.out.trans (BV.out.mono HBV.out.size))
          have HBWV := Lib.hid (HBWV.out.trans (BV.out.mono HBWV.out.size))
          have HDA := Lib.hid (HDA.out.later BV.out)
          have HDB := Lib.hid (HDB.out.later BV.out)
          have v1 := Lib.hid (v1.out.later BV.out v1.out.lt)
          obtain ⟨G2, hG2⟩ : ∃ g, V.heap.size = g := ⟨_, rfl⟩
          rw [hG2] at v2 ⊢
          clear hV' hG2 b1 k0 k1 k2 k3 k4 BV sV2 sV
          have d0 : V'.cell? ⟨G, 0, none⟩ = some (.int .i64 tk) := v1.out.cell _
          have d1 : V'.cell? ⟨G, 1, none⟩ = some (.int .i64 nd) := v1.out.cell _
          have d2 : V'.cell? ⟨G, 2, none⟩ = some (.bool ou) := v1.out.cell _
          have d3 : V'.cell? ⟨G, 3, none⟩ = some (.int .i64 lg) := v1.out.cell _
          have d4 : V'.cell? ⟨G, 4, none⟩ = some (.slice pd dn cd) := v1.out.cell _
          have k0 : V'.cell? ⟨G2, 0, none⟩ = some (.int .i64 tk2) := v2.out.cell _
          have k1 : V'.cell? ⟨G2, 1, none⟩ = some (.int .i64 nd2) := v2.out.cell _
          have k2 : V'.cell? ⟨G2, 2, none⟩ = some (.bool ou2) := v2.out.cell _
          have k3 : V'.cell? ⟨G2, 3, none⟩ = some (.int .i64 lg2) := v2.out.cell _
          have k4 : V'.cell? ⟨G2, 4, none⟩ = some (.slice pd2 dm cd2) := v2.out.cell _
          have HFIN : Below w.heap.size w V' := HBWV.out
          have HFI2 := Lib.hid HFIN
          have HFIN := HFI2
          obtain ⟨q1, f1⟩ : ∃ b, (tk != tk2) = b := ⟨_, rfl⟩
          obtain ⟨q2, f2⟩ : ∃ b, (nd != nd2) = b := ⟨_, rfl⟩
          obtain ⟨q3, f3⟩ : ∃ b, (ou != ou2) = b := ⟨_, rfl⟩
          obtain ⟨q4, f4⟩ : ∃ b, (lg != lg2) = b := ⟨_, rfl⟩
          obtain ⟨q5, f5⟩ : ∃ b, decide (dt = dt2) = b := ⟨_, rfl⟩
          have HNE : Hid (∀ (x : Bool), x = true → (tk = tk2 → nd = nd2 → ou = ou2 → lg = lg2 → dt = dt2 → False) → z = false) := Lib.hid fun x _ hx => by
            rw [← HZ.out]
            refine decide_eq_false fun h => ?_
            have := HRR.out
            rw [h, HQQ.out] at this
            have := Option.some.inj this
            injection this with y1 y2 y3 y4 y5
            exact hx y1.symm y2.symm y3.symm y4.symm y5.symm
          have H1 := Lib.hid f1
          have H2 := Lib.hid f2
          have H3 := Lib.hid f3
          have H4 := Lib.hid f4
          have H5 := Lib.hid f5
          rw [f5] at HSM
          clear f5
          rcases Bool.eq_false_or_eq_true q1 with hq | hq
          all_goals subst hq
          · have HF : Hid (z = false) := Lib.hid (HNE.out true rfl (fun y1 y2 y3 y4 y5 => by have := bne_iff_ne.1 H1.out; exact this y1))
            go_wp2
            go_ret
            exact ⟨by rw [HF.out]; rfl, HFIN.out⟩
          rcases Bool.eq_false_or_eq_true q2 with hq | hq
          all_goals subst hq
          · have HF : Hid (z = false) := Lib.hid (HNE.out true rfl (fun y1 y2 y3 y4 y5 => by have := bne_iff_ne.1 H2.out; exact this y2))
            go_wp2
            go_ret
            exact ⟨by rw [HF.out]; rfl, HFIN.out⟩
          rcases Bool.eq_false_or_eq_true q3 with hq | hq
          all_goals subst hq
          · have HF : Hid (z = false) := Lib.hid (HNE.out true rfl (fun y1 y2 y3 y4 y5 => by have := bne_iff_ne.1 H3.out; exact this y3))
            clear HNE HSM HRR HQQ
            cases ou <;> cases ou2 <;> first | exact absurd H3.out (by decide) | (go_wp2; go_ret; exact ⟨by rw [HF.out]; rfl, HFIN.out⟩)
          have hoo : ou = ou2 := by have := H3.out; simpa using this
          subst hoo
          rcases Bool.eq_false_or_eq_true q4 with hq | hq
          all_goals subst hq
          · have HF : Hid (z = false) := Lib.hid (HNE.out true rfl (fun y1 y2 y3 y4 y5 => by have := bne_iff_ne.1 H4.out; exact this y4))
            go_wp2
            go_ret
            exact ⟨by rw [HF.out]; rfl, HFIN.out⟩
          cases q5
          · have HF : Hid (z = false) := Lib.hid (HNE.out true rfl (fun y1 y2 y3 y4 y5 => by have := of_decide_eq_false H5.out; exact this y5))
            go_wp2_with (go_at_call 15; refine (HSM.out V' HDA.out HDB.out).mono ?_; rintro e V4 ⟨rfl, hB4⟩)
            go_ret
            exact ⟨by rw [HF.out]; rfl, HFIN.out.trans (hB4.mono HFIN.out.size)⟩
          have HN2 : Hid (∀ j, j < k + 1 → a.recs[j]? = b.recs[j]?) := Lib.hid fun j hj => by
            by_cases e : j = k
            · subst e
              have y1 : tk = tk2 := by have := H1.out; simpa using this
              have y2 : nd = nd2 := by have := H2.out; simpa using this
              have y4 : lg = lg2 := by have := H4.out; simpa using this
              have y5 := of_decide_eq_true H5.out
              rw [HRR.out, HQQ.out, y1, y2, y4, y5]
            · exact HEQ.out j (by omega)
          go_upto_region 5 with (go_at_call 15; refine (HSM.out V' HDA.out HDB.out).mono ?_; rintro e V4 ⟨rfl, hB4⟩)
          have HB4 := Lib.hid (HBV.out.trans (hB4.mono HBV.out.size))
          clear hB4 d0 d1 d2 d3 d4 k0 k1 k2 k3 k4 f1 f2 f3 f4
          go_wp2
          exact ⟨⟨k + 1, by go_num, by omega, HN2, HB4⟩, by simp [intOf]; omega⟩
        · have x1 : decide ((k : Int) < (n : Int)) = false := decide_eq_false (by omega)
          have x1' : decide (k < n) = false := decide_eq_false hlt
          have HF : Hid (z = true) := Lib.hid (by rw [← HZ.out]; exact decide_eq_true (recs_eq HN.out HM.out fun j hj => HEQ.out j (by omega)))
          clear hlt
          go_wp2
          go_ret
          exact ⟨by rw [HF.out]; rfl, HBW.out⟩
    · have HF : Hid (z = false) := Lib.hid (by rw [← HZ0.out]; refine decide_eq_false fun h => hnm ?_; rw [← HN.out, ← HM.out, h])
      subst hs
      have e1 : (sa != sa) = false := bne_self_eq_false _
      have e0 : ((n : Int) != (m : Int)) = true := bne_iff_ne.2 (by omega)
      have e0' : (n != m) = true := bne_iff_ne.2 hnm
      go_wp2
      go_ret
      exact ⟨by rw [HF.out]; rfl, BW.out⟩
  · have HF : Hid (z = false) := Lib.hid (by rw [← HZ0.out]; refine decide_eq_false fun h => hs ?_; rw [← HSA.out, ← HSB.out, h])
    have e1 : (sa != sb) = true := bne_iff_ne.2 hs
    go_wp2
    go_ret
    exact ⟨by rw [HF.out]; rfl, BW.out⟩
end Go.Proofs.YtpciggnanlflkaaGreatDoor.Ad
