/- Contract of tape.Right. Conditions: none beyond those that the theorem states. -/
import Derived.Test.YtpciggnanlflkaaGreatDoorWb
namespace Go.Proofs.YtpciggnanlflkaaGreatDoor.Ad
set_option linter.unusedVariables false
set_option linter.unusedSimpArgs false
open Go.RowKit Go.Maps W
theorem BAt.later {w w' : World} {p : Option Go.Addr} {l : List UInt8} (h : BAt w p l) (hb : Below w.heap.size w w') : BAt w' p l := by
  rcases h with h | ⟨g, o, h1, h2, h3⟩
  · exact .inl h
  · exact .inr ⟨g, o, h1, Nat.lt_of_lt_of_le h2 hb.size, fun i hi => (hb.cell (by exact h2)).trans (h3 i hi)⟩
theorem RAt.later {w w' : World} {p : Option Go.Addr} {l : List Rec} (h : RAt w p l) (hb : Below w.heap.size w w') : RAt w' p l := by
  rcases h with h | ⟨g, o, h1, h2, h3⟩
  · exact .inl h
  · refine .inr ⟨g, o, h1, Nat.lt_of_lt_of_le h2 hb.size, fun i r hr => ?_⟩
    obtain ⟨pd, cd, h4, h5⟩ := h3 i r hr
    exact ⟨pd, cd, fun j v hv => (hb.cell (by exact h2)).trans (h4 j v hv), h5.1.later hb, h5.2⟩
theorem allV_take {snap : Int} {l : List Rec} {k : Nat} {r : Rec} (hr : l[k]? = some r) : allV snap 0 (l.take (k + 1)) = (allV snap 0 (l.take k) && mayV r snap (lastV 0 (l.take k))) := by
  rw [List.take_add_one, hr]; exact allV_snoc _ _ _ _
theorem lastV_take {l : List Rec} {k : Nat} {r : Rec} (hr : l[k]? = some r) : lastV 0 (l.take (k + 1)) = r.tk := by
  rw [List.take_add_one, hr]; exact lastV_snoc _ _ _
theorem allV_front {snap : Int} {l : List Rec} {k : Nat} (h : allV snap 0 (l.take k) = false) : allV snap 0 l = false := by
  rw [← List.take_append_drop k l, allV_app, h]; rfl
set_option maxRecDepth 100000 in
set_option maxHeartbeats 2000000 in
theorem right_calls (t : Tp) (p : Option Go.Addr) (c : Nat) (w : World) (hp : RAt w p t.recs) : Calls Tryz.prog 16 #[.agg #[.int .i64 t.snap, .slice p t.recs.length c]] w fun e w' => e = .returned (.bool (rightV t)) ∧ Below w.heap.size w w' := by
  have HP := Lib.hid hp
  obtain ⟨n, hn⟩ : ∃ n, t.recs.length = n := ⟨_, rfl⟩
  have HN := Lib.hid hn
  rw [hn]
  obtain ⟨sn, hsn⟩ : ∃ s, t.snap = s := ⟨_, rfl⟩
  have HSN := Lib.hid hsn
  rw [hsn]
  clear hp hn hsn
  go_enter Tryz.func16, Tryz.ntmps16
  go_upto_region 1 with fail
  refine wp_named fun W hW => ?_
  obtain ⟨bk, BW, sW⟩ := box1 hW
  have c0 : W.cell? ⟨w.heap.size, 0, none⟩ = some (.int .i64 sn) := bk.out.cell _
  have c1 : W.cell? ⟨w.heap.size, 1, none⟩ = some (.slice p n c) := bk.out.cell _
  clear hW
  by_cases h0 : sn < 0
  · have f0 : decide (sn < 0) = true := decide_eq_true h0
    have HM : Hid (rightV t = false) := Lib.hid (by have := HSN.out; unfold rightV; rw [decide_eq_false (by omega)]; rfl)
    go_wp2
    go_ret
    exact ⟨by rw [HM.out]; rfl, BW.out⟩
  have f0 : decide (sn < 0) = false := decide_eq_false h0
  by_cases h1 : 65575 < sn
  · have f1 : decide (65575 < sn) = true := decide_eq_true h1
    have HM : Hid (rightV t = false) := Lib.hid (by have := HSN.out; unfold rightV; rw [decide_eq_false (by omega)]; rfl)
    go_wp2
    go_ret
    exact ⟨by rw [HM.out]; rfl, BW.out⟩
  have f1 : decide (65575 < sn) = false := decide_eq_false h1
  by_cases h2 : 4096 < n
  · have f2 : decide (4096 < n) = true := decide_eq_true h2
    have f2' : decide ((4096 : Int) < (n : Int)) = true := decide_eq_true (by omega)
    have HM : Hid (rightV t = false) := Lib.hid (by have := HN.out; unfold rightV; rw [decide_eq_false (by omega)]; rfl)
    go_wp2
    go_ret
    exact ⟨by rw [HM.out]; rfl, BW.out⟩
  have f2 : decide (4096 < n) = false := decide_eq_false h2
  have f2' : decide ((4096 : Int) < (n : Int)) = false := decide_eq_false (by omega)
  have HR : Hid (rightV t = allV sn 0 t.recs) := Lib.hid (by unfold rightV; have h3 := HSN.out; have h4 := HN.out; rw [decide_eq_true (by omega), h3]; rfl)
  go_upto_region 5 with fail
  go_loopw [3, 5, 23] (fun u3 _ u wr => ∃ k : Nat, u = .int .i64 k ∧ k ≤ n ∧ u3 = .int .i64 (lastV 0 (t.recs.take k)) ∧ allV sn 0 (t.recs.take k) = true ∧ Hid (Below W.heap.size W wr)) (fun _ _ u _ => n - (intOf u).toNat)
  case atStart => exact ⟨0, rfl, Nat.zero_le _, rfl, rfl, Lib.hid (Below.refl _ _)⟩
  case round =>
    obtain ⟨k, rfl, hk, rfl, hall, HB⟩ := hrel
    have HALL := Lib.hid hall
    have HBW := keep BW HB.out
    clear hall
    by_cases hlt : k < n
    · have x1 : decide ((k : Int) < (n : Int)) = true := decide_eq_true (by omega)
      have x1' : decide (k < n) = true := decide_eq_true hlt
      have HK : Hid (k < t.recs.length) := Lib.hid (by have := HN.out; omega)
      obtain ⟨r, hr⟩ : ∃ r, t.recs[k]? = some r := ⟨_, List.getElem?_eq_getElem HK.out⟩
      have HRR := Lib.hid hr
      have hap := HP.out.later HBW.out
      clear hr
      rcases hap with hap | ⟨g, o, rfl, hgl, hh⟩
      · have := HK.out; rw [hap] at this; exact absurd this (Nat.not_lt_zero _)
      obtain ⟨pd, cd, hr5, _⟩ := hh k r HRR.out
      have d0 : wr.cell? ⟨g, o + k * 5, none⟩ = some (.int .i64 r.tk) := hr5 0 _ rfl
      have d1 : wr.cell? ⟨g, o + k * 5 + 1, none⟩ = some (.int .i64 r.node) := hr5 1 _ rfl
      have d2 : wr.cell? ⟨g, o + k * 5 + 2, none⟩ = some (.bool r.out) := hr5 2 _ rfl
      have d3 : wr.cell? ⟨g, o + k * 5 + 3, none⟩ = some (.int .i64 r.long) := hr5 3 _ rfl
      have d4 : wr.cell? ⟨g, o + k * 5 + 4, none⟩ = some (.slice pd r.data.length cd) := hr5 4 _ rfl
      clear hr5 hh
      go_upto_region 7 with fail
      refine wp_named fun W3 hW3 => ?_
      obtain ⟨b3, B3, s3⟩ := box1 hW3
      have HB3 := Lib.hid (HB.out.trans (B3.out.mono HB.out.size))
      have HBW3 := keep BW HB3.out
      obtain ⟨G1, hG1⟩ : ∃ g, wr.heap.size = g := ⟨_, rfl⟩
      rw [hG1] at b3 ⊢
      have e0 : W3.cell? ⟨G1, 0, none⟩ = some (.int .i64 r.tk) := b3.out.cell _
      have e1 : W3.cell? ⟨G1, 1, none⟩ = some (.int .i64 r.node) := b3.out.cell _
      have e2 : W3.cell? ⟨G1, 2, none⟩ = some (.bool r.out) := b3.out.cell _
      have e3 : W3.cell? ⟨G1, 3, none⟩ = some (.int .i64 r.long) := b3.out.cell _
      have e4 : W3.cell? ⟨G1, 4, none⟩ = some (.slice pd r.data.length cd) := b3.out.cell _
      have g0 : W3.cell? ⟨w.heap.size, 0, none⟩ = some (.int .i64 sn) := (bk.out.later HB3.out bk.out.lt).cell _
      have HMY := Lib.hid (may_calls r pd cd sn (lastV 0 (t.recs.take k)))
      unfold recC at HMY
      have HT := Lib.hid (allV_take (snap := sn) HRR.out)
      have HLT := Lib.hid (lastV_take HRR.out)
      obtain ⟨la, hla⟩ : ∃ x, lastV 0 (t.recs.take k) = x := ⟨_, rfl⟩
      rw [hla] at HMY HT ⊢
      clear hW3 d0 d1 d2 d3 d4 B3 s3 hG1 hla c0 c1
      cases hm : mayV r sn la
      · rw [hm] at HMY
        have HM : Hid (rightV t = false) := Lib.hid (by rw [HR.out]; exact allV_front (k := k + 1) (by rw [HT.out, hm, Bool.and_false]))
        clear hm
        go_wp2_with (go_at_call 43; refine (HMY.out _).mono ?_; rintro e W4 ⟨rfl, hB4⟩)
        go_ret
        exact ⟨by rw [HM.out]; rfl, (keep HBW3 hB4).out⟩
      · rw [hm] at HMY
        have HA2 : Hid (allV sn 0 (t.recs.take (k + 1)) = true) := Lib.hid (by rw [HT.out, hm, HALL.out]; rfl)
        clear hm
        go_upto_region 9 with (go_at_call 43; refine (HMY.out _).mono ?_; rintro e W4 ⟨rfl, hB4⟩)
        have e0 : W4.cell? ⟨G1, 0, none⟩ = some (.int .i64 r.tk) := (hB4.cell (World.block_lt_of_cell? _ _ e0)).trans e0
        have HB4 := Lib.hid (HB3.out.trans (hB4.mono HB3.out.size))
        clear hB4 e1 e2 e3 e4 g0
        go_wp2
        exact ⟨⟨k + 1, by go_num, by omega, by rw [HLT.out], HA2.out, HB4⟩, by simp [intOf]; omega⟩
    · have e1 : decide ((k : Int) < (n : Int)) = false := decide_eq_false (by omega)
      have e1' : decide (k < n) = false := decide_eq_false hlt
      have HM : Hid (rightV t = true) := Lib.hid (by
        rw [HR.out]
        have h := HALL.out
        rwa [List.take_of_length_le (by have := HN.out; omega)] at h)
      clear hlt
      go_wp2
      go_ret
      exact ⟨by rw [HM.out]; rfl, HBW.out⟩
end Go.Proofs.YtpciggnanlflkaaGreatDoor.Ad
