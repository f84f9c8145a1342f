/- Contract of the laws' right. Conditions: none beyond those that the theorem states. -/
import Derived.Test.YtpciggnanlflkaaGreatDoorYd
namespace Go.Proofs.YtpciggnanlflkaaGreatDoor.Ad
set_option linter.unusedVariables false
set_option linter.unusedSimpArgs false
open Go.RowKit Go.Maps W
theorem may_dec (r : Rec) (sn la : Int) : mayV r sn la = decide (la ≤ r.tk ∧ r.tk ≤ 1099511627776 ∧ 0 ≤ r.node ∧ r.node < 16 ∧ 0 ≤ r.long ∧ r.long ≤ 65575 ∧ (r.data.length : Int) = min r.long sn) := rfl
theorem allV_cut {sn : Int} {l : List Rec} {k : Nat} {r : Rec} (hr : l[k]? = some r) (hm : mayV r sn (lastV 0 (l.take k)) = false) : allV sn 0 l = false := allV_front (k := k + 1) (by rw [allV_take hr, hm, Bool.and_false])
set_option maxRecDepth 100000 in
set_option maxHeartbeats 8000000 in
theorem lright_calls (t : Tp) (p : Option Go.Addr) (c : Nat) (w : World) (hp : RAt w p t.recs) (hl : t.recs.length ≤ 1099511627776) : Calls Tryz.prog 24 #[.agg #[.int .i64 t.snap, .slice p t.recs.length c]] w fun e w' => e = .returned (.bool (rightV t)) ∧ Below w.heap.size w w' := by
  have HP := Lib.hid hp
  obtain ⟨rv, hrv⟩ : ∃ q, rightV t = q := ⟨_, rfl⟩
  have HRV := Lib.hid hrv
  rw [hrv]
  obtain ⟨n, hn⟩ : ∃ n, t.recs.length = n := ⟨_, rfl⟩
  have HN := Lib.hid hn
  rw [hn] at hl ⊢
  obtain ⟨sn, hsn⟩ : ∃ s, t.snap = s := ⟨_, rfl⟩
  have HSN := Lib.hid hsn
  rw [hsn]
  have HNO : Hid (allV sn 0 t.recs = false → rv = false) := Lib.hid fun h => by rw [← hrv]; unfold rightV; rw [hsn, h, Bool.and_false]
  clear hp hn hsn hrv
  go_enter Tryz.func24, Tryz.ntmps24
  go_upto_region 1 with fail
  refine wp_named fun W hW => ?_
  obtain ⟨bk, BW, sW⟩ := box1 hW
  obtain ⟨b0, hb0⟩ : ∃ b, w.heap.size = b := ⟨_, rfl⟩
  have HB0 := Lib.hid hb0
  rw [hb0] at bk sW ⊢
  clear hW hb0
  go_upto_region 3 with fail
  go_loopw [3, 4, 5] (fun u3 u4 _ wr => ∃ k : Nat, u4 = .int .i64 k ∧ k ≤ n ∧ u3 = .int .i64 (lastV 0 (t.recs.take k)) ∧ Hid (allV sn 0 (t.recs.take k) = true) ∧ Hid (Below W.heap.size W wr)) (fun _ u4 _ _ => n - (intOf u4).toNat)
  case atStart => exact ⟨0, rfl, Nat.zero_le _, rfl, Lib.hid rfl, Lib.hid (Below.refl _ _)⟩
  case round =>
    obtain ⟨k, rfl, hk, rfl, HALL, HB⟩ := hrel
    have HBW := keep BW HB.out
    have bkr := Lib.hid (bk.out.later HB.out bk.out.lt)
    have c0 : wr.cell? ⟨b0, 0, none⟩ = some (.int .i64 sn) := bkr.out.cell _
    have c1 : wr.cell? ⟨b0, 1, none⟩ = some (.slice p n c) := bkr.out.cell _
    by_cases hlt : k < n
    · have x1 : decide ((k : Int) < (n : Int)) = true := decide_eq_true (by omega)
      have x1' : decide (k < n) = true := decide_eq_true hlt
      have HK : Hid (k < t.recs.length) := Lib.hid (by have := HN.out; omega)
      obtain ⟨r, hr⟩ : ∃ r, t.recs[k]? = some r := ⟨_, List.getElem?_eq_getElem HK.out⟩
      have HRR := Lib.hid hr
      have HCUT := Lib.hid (fun (h : mayV r sn (lastV 0 (t.recs.take k)) = false) => HNO.out (allV_cut hr h))
      have HT := Lib.hid (allV_take (snap := sn) hr)
      have HLT := Lib.hid (lastV_take hr)
      obtain ⟨g, o, rfl, hgl, pd, cd, hr5, _⟩ := own_cellsB (HP.out.later HBW.out) hr
      have HMD := Lib.hid (may_dec r sn (lastV 0 (t.recs.take k)))
      clear hr hgl
      obtain ⟨la, hla⟩ : ∃ x, lastV 0 (t.recs.take k) = x := ⟨_, rfl⟩
      rw [hla] at HT HCUT HMD ⊢
      obtain ⟨mv, hmv⟩ : ∃ x, mayV r sn la = x := ⟨_, rfl⟩
      rw [hmv] at HT HCUT HMD
      obtain ⟨tk, nd, ou, lg, dt⟩ := r
      simp only at HLT HMD
      obtain ⟨dn, hdn⟩ : ∃ q, dt.length = q := ⟨_, rfl⟩
      rw [hdn] at HMD
      have d0 : wr.cell? ⟨g, o + k * 5, none⟩ = some (.int .i64 tk) := hr5 0 _ rfl
      have d1 : wr.cell? ⟨g, o + k * 5 + 1, none⟩ = some (.int .i64 nd) := hr5 1 _ rfl
      have d2 : wr.cell? ⟨g, o + k * 5 + 2, none⟩ = some (.bool ou) := hr5 2 _ rfl
      have d3 : wr.cell? ⟨g, o + k * 5 + 3, none⟩ = some (.int .i64 lg) := hr5 3 _ rfl
      have d4 : wr.cell? ⟨g, o + k * 5 + 4, none⟩ = some (.slice pd dt.length cd) := hr5 4 _ rfl
      rw [hdn] at d4
      clear hr5 hla hmv hdn
      go_upto_region 6 with fail
      refine wp_named fun V hV => ?_
      obtain ⟨b3, B3, s3⟩ := box1 hV
      have HB3 := Lib.hid (HB.out.trans (B3.out.mono HB.out.size))
      have HBW3 := keep BW HB3.out
      obtain ⟨G, hG⟩ : ∃ g, wr.heap.size = g := ⟨_, rfl⟩
      rw [hG] at b3 ⊢
      have e0 : V.cell? ⟨G, 0, none⟩ = some (.int .i64 tk) := b3.out.cell _
      have e1 : V.cell? ⟨G, 1, none⟩ = some (.int .i64 nd) := b3.out.cell _
      have e2 : V.cell? ⟨G, 2, none⟩ = some (.bool ou) := b3.out.cell _
      have e3 : V.cell? ⟨G, 3, none⟩ = some (.int .i64 lg) := b3.out.cell _
      have e4 : V.cell? ⟨G, 4, none⟩ = some (.slice pd dn cd) := b3.out.cell _
      have q0 : V.cell? ⟨b0, 0, none⟩ = some (.int .i64 sn) := (bkr.out.later B3.out bkr.out.lt).cell _
      obtain ⟨mn, hmn⟩ : ∃ q, min lg sn = q := ⟨_, rfl⟩
      rw [hmn] at HMD
      have HMN := Lib.hid hmn
      clear hV hG c0 c1 d0 d1 d2 d3 d4 B3 s3 hmn
      by_cases g0 : tk < la
      case pos =>
        have f0 : decide (tk < la) = true := decide_eq_true g0
        have HM : Hid (rv = false) := Lib.hid (HCUT.out (by rw [HMD.out]; exact decide_eq_false fun h => by omega))
        clear g0
        go_wp2
        go_ret
        exact ⟨by rw [HM.out]; rfl, HBW3.out⟩
      have f0 : decide (tk < la) = false := decide_eq_false g0
      by_cases g1 : 1099511627776 < tk
      case pos =>
        have f1 : decide (1099511627776 < tk) = true := decide_eq_true g1
        have HM : Hid (rv = false) := Lib.hid (HCUT.out (by rw [HMD.out]; exact decide_eq_false fun h => by omega))
        clear g0 g1
        go_wp2
        go_ret
        exact ⟨by rw [HM.out]; rfl, HBW3.out⟩
      have f1 : decide (1099511627776 < tk) = false := decide_eq_false g1
      by_cases g2 : nd < 0
      case pos =>
        have f2 : decide (nd < 0) = true := decide_eq_true g2
        have HM : Hid (rv = false) := Lib.hid (HCUT.out (by rw [HMD.out]; exact decide_eq_false fun h => by omega))
        clear g0 g1 g2
        go_wp2
        go_ret
        exact ⟨by rw [HM.out]; rfl, HBW3.out⟩
      have f2 : decide (nd < 0) = false := decide_eq_false g2
      by_cases g3 : 15 < nd
      case pos =>
        have f3 : decide (15 < nd) = true := decide_eq_true g3
        have HM : Hid (rv = false) := Lib.hid (HCUT.out (by rw [HMD.out]; exact decide_eq_false fun h => by omega))
        clear g0 g1 g2 g3
        go_wp2
        go_ret
        exact ⟨by rw [HM.out]; rfl, HBW3.out⟩
      have f3 : decide (15 < nd) = false := decide_eq_false g3
      by_cases g4 : lg < 0
      case pos =>
        have f4 : decide (lg < 0) = true := decide_eq_true g4
        have HM : Hid (rv = false) := Lib.hid (HCUT.out (by rw [HMD.out]; exact decide_eq_false fun h => by omega))
        clear g0 g1 g2 g3 g4
        go_wp2
        go_ret
        exact ⟨by rw [HM.out]; rfl, HBW3.out⟩
      have f4 : decide (lg < 0) = false := decide_eq_false g4
      by_cases g5 : 65575 < lg
      case pos =>
        have f5 : decide (65575 < lg) = true := decide_eq_true g5
        have HM : Hid (rv = false) := Lib.hid (HCUT.out (by rw [HMD.out]; exact decide_eq_false fun h => by omega))
        clear g0 g1 g2 g3 g4 g5
        go_wp2
        go_ret
        exact ⟨by rw [HM.out]; rfl, HBW3.out⟩
      have f5 : decide (65575 < lg) = false := decide_eq_false g5
      by_cases g6 : (dn : Int) = mn
      case neg =>
        have f6 : ((dn : Int) != min lg sn) = true := by rw [HMN.out]; exact bne_iff_ne.2 g6
        have f6' : (!((dn : Int) == min lg sn)) = true := by rw [HMN.out]; simpa using g6
        have HM : Hid (rv = false) := Lib.hid (HCUT.out (by rw [HMD.out]; exact decide_eq_false fun h => g6 (by omega)))
        clear g0 g1 g2 g3 g4 g5 g6
        go_wp2
        go_ret
        exact ⟨by rw [HM.out]; rfl, HBW3.out⟩
      have f6 : ((dn : Int) != min lg sn) = false := by rw [HMN.out, g6]; exact bne_self_eq_false _
      have f6' : (!((dn : Int) == min lg sn)) = false := by rw [HMN.out, g6]; simp
      have HM : Hid (mv = true) := Lib.hid (by rw [HMD.out]; exact decide_eq_true (by omega))
      have HA2 : Hid (allV sn 0 (t.recs.take (k + 1)) = true) := Lib.hid (by rw [HT.out, HM.out, HALL.out]; rfl)
      clear g0 g1 g2 g3 g4 g5 g6
      go_wp2
      exact ⟨⟨k + 1, by go_num, by omega, by rw [HLT.out], HA2, HB3⟩, by simp [intOf]; omega⟩
    · have x1 : decide ((k : Int) < (n : Int)) = false := decide_eq_false (by omega)
      have x1' : decide (k < n) = false := decide_eq_false hlt
      have HM : Hid (rv = decide (0 ≤ sn ∧ sn ≤ 65575 ∧ n ≤ 4096)) := Lib.hid (by
        have h := HALL.out
        rw [List.take_of_length_le (by have := HN.out; omega)] at h
        rw [← HRV.out]
        unfold rightV
        rw [HSN.out, HN.out, h, Bool.and_true])
      clear hlt
      by_cases g0 : 0 ≤ sn
      case neg =>
        have f0 : decide (0 ≤ sn) = false := decide_eq_false g0
        have HF : Hid (rv = false) := Lib.hid (by rw [HM.out]; exact decide_eq_false fun h => by omega)
        clear g0
        go_wp2
        go_ret
        exact ⟨by rw [HF.out]; rfl, HBW.out⟩
      have f0 : decide (0 ≤ sn) = true := decide_eq_true g0
      by_cases g1 : sn ≤ 65575
      case neg =>
        have f1 : decide (sn ≤ 65575) = false := decide_eq_false g1
        have HF : Hid (rv = false) := Lib.hid (by rw [HM.out]; exact decide_eq_false fun h => by omega)
        clear g0 g1
        go_wp2
        go_ret
        exact ⟨by rw [HF.out]; rfl, HBW.out⟩
      have f1 : decide (sn ≤ 65575) = true := decide_eq_true g1
      by_cases g2 : n ≤ 4096
      case neg =>
        have f2 : decide ((n : Int) ≤ 4096) = false := decide_eq_false (by omega)
        have f2' : decide (n ≤ 4096) = false := decide_eq_false g2
        have HF : Hid (rv = false) := Lib.hid (by rw [HM.out]; exact decide_eq_false fun h => by omega)
        clear g0 g1 g2
        go_wp2
        go_ret
        exact ⟨by rw [HF.out]; rfl, HBW.out⟩
      have f2 : decide ((n : Int) ≤ 4096) = true := decide_eq_true (by omega)
      have f2' : decide (n ≤ 4096) = true := decide_eq_true g2
      have HF : Hid (rv = true) := Lib.hid (by rw [HM.out]; exact decide_eq_true ⟨g0, g1, g2⟩)
      clear g0 g1 g2
      go_wp2
      go_ret
      exact ⟨by rw [HF.out]; rfl, HBW.out⟩
theorem lright_t {t : Tp} {p : Option Go.Addr} {n c : Nat} {w : World} (h : Tin w p n c t) (hn : n ≤ 1099511627776) : Calls Tryz.prog 24 #[.agg #[.int .i64 t.snap, .slice p n c]] w fun e w' => e = .returned (.bool (rightV t)) ∧ Below w.heap.size w w' := by
  obtain ⟨rfl, h1, h2⟩ := h
  exact lright_calls t p c w h1 hn
end Go.Proofs.YtpciggnanlflkaaGreatDoor.Ad
