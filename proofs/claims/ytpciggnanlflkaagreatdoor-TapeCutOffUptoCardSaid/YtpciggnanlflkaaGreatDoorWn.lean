/- Contract of tape.Snip. Conditions: none beyond those that the theorem states. -/
import Derived.Test.YtpciggnanlflkaaGreatDoorWm
namespace Go.Proofs.YtpciggnanlflkaaGreatDoor.Ad
set_option linter.unusedVariables false
set_option linter.unusedSimpArgs false
open Go.RowKit Go.Maps W
/-- A tape laid over a result's cells. -/
theorem tape_fin {w wr : World} {B b : Nat} {v x y : Value} {l : List Rec} {ds : List Value} (s : Int) (hb : Blk wr b 24 #[x, y]) (h : TO wr B v l ds) (hB : b < B) (hw : Below w.heap.size w wr) (hl : w.heap.size ≤ b) (hs : w.heap.size ≤ B) :
    Blk ((wr.setCell ⟨b, 0, none⟩ (.int .i64 s)).setCell ⟨b, 1, none⟩ v) b 24 #[.int .i64 s, v] ∧ TO ((wr.setCell ⟨b, 0, none⟩ (.int .i64 s)).setCell ⟨b, 1, none⟩ v) w.heap.size v l ds ∧ Below w.heap.size w ((wr.setCell ⟨b, 0, none⟩ (.int .i64 s)).setCell ⟨b, 1, none⟩ v) := by
  have hf : Fr (fun k => k = b) wr ((wr.setCell ⟨b, 0, none⟩ (.int .i64 s)).setCell ⟨b, 1, none⟩ v) := fr_set.trans fr_set
  refine ⟨(hb.set_ 0 _).set_ 1 _, (h.fr hf (fun k hk e => ?_) (fun x hx k hk e => ?_)).base hs, hw.trans (hf.below (fun k hk e => by omega) hw.size)⟩
  · have := own_ge h.own k hk; omega
  · have := (h.dlt hx k hk).1; omega
/-- What Snip answers. -/
def snipV (t : Tp) (s : Int) : Tp × Int := if rightV t = true ∧ 0 ≤ s ∧ s ≤ t.snap then (⟨s, pickV (fun _ => true) s t.recs⟩, 0) else (⟨0, []⟩, 1)
theorem enters60 : ∀ args w, (callFunc 60 args).run Tryz.prog w = .ok (.enter 60 args) w := Go.Proofs.enters_of Tryz.func60 (by kernel_rfl) rfl
set_option maxRecDepth 100000 in
set_option maxHeartbeats 2000000 in
theorem wants60 (w : World) (l : List Rec) : Wants 60 #[] (fun _ => true) w l := fun w' _ r _ pd cd _ _ => by
  obtain ⟨tk, nd, ou, lg, dt⟩ := r
  simp only [recC]
  obtain ⟨dn, hdn⟩ : ∃ n, dt.length = n := ⟨_, rfl⟩
  rw [hdn]
  clear hdn
  go_enter Tryz.func60, Tryz.ntmps60
  go_wp2
  go_ret
  exact ⟨rfl, (Below.refl _ _).alloc (Nat.le_refl _) _⟩
theorem right_data {t : Tp} (h : rightV t = true) : ∀ r ∈ t.recs, r.data.length ≤ 65575 := by
  unfold rightV at h
  rw [Bool.and_eq_true] at h
  exact all_len h.2
set_option maxRecDepth 100000 in
set_option maxHeartbeats 4000000 in
theorem snip_calls (t : Tp) (s : Int) (p : Option Go.Addr) (c : Nat) (w : World) (hp : RAt w p t.recs) : Calls Tryz.prog 28 #[.agg #[.int .i64 t.snap, .slice p t.recs.length c], .int .i64 s] w fun e w' =>
    ∃ v ds, e = .returned (.tuple #[.agg #[.int .i64 (snipV t s).1.snap, v], .int .i64 (snipV t s).2]) ∧ TO w' w.heap.size v (snipV t s).1.recs ds ∧ Below w.heap.size w w' := by
  have HP := Lib.hid hp
  have HR := Lib.hid (fun w' (h : Below w.heap.size w w') => right_calls t p c w' (hp.later h))
  have HPK := Lib.hid (fun (h1 : rightV t = true) (h0 : 0 ≤ s) w' (h : Below w.heap.size w w') => picked_calls 60 #[] (fun _ => true) enters60 t p c s h0 w' (hp.later h) (Nat.le_trans (right_len h1) (by omega)) (fun r hr => Nat.le_trans (right_data h1 r hr) (by omega)) (wants60 w' t.recs))
  have HV : Hid (∀ b, rightV t = b → snipV t s = if b = true ∧ 0 ≤ s ∧ s ≤ t.snap then (⟨s, pickV (fun _ => true) s t.recs⟩, 0) else (⟨0, []⟩, 1)) := Lib.hid fun b hb => by rw [← hb]; rfl
  obtain ⟨rb, hrb⟩ : ∃ b, rightV t = b := ⟨_, rfl⟩
  have HRB := Lib.hid hrb
  obtain ⟨n, hn⟩ : ∃ n, t.recs.length = n := ⟨_, rfl⟩
  obtain ⟨sn, hsn⟩ : ∃ n, t.snap = n := ⟨_, rfl⟩
  rw [hn, hsn] at HR HPK
  rw [hn, hsn]
  rw [hsn] at HV
  rw [hrb] at HR
  clear hp hrb hn hsn
  go_enter Tryz.func28, Tryz.ntmps28
  go_upto_region 1 with fail
  refine wp_named fun W hW => ?_
  obtain ⟨bk, bq, BW, sW⟩ := box2 hW
  obtain ⟨b0, hb0⟩ : ∃ b, w.heap.size = b := ⟨_, rfl⟩
  have HB0 := Lib.hid hb0
  have c0 : W.cell? ⟨w.heap.size, 0, none⟩ = some (.int .i64 sn) := bk.out.cell _
  have c1 : W.cell? ⟨w.heap.size, 1, none⟩ = some (.slice p n c) := bk.out.cell _
  rw [hb0] at bk bq sW c0 c1 ⊢
  clear hW hb0
  by_cases hok : rb = true ∧ 0 ≤ s ∧ s ≤ sn
  · obtain ⟨rfl, h0, h1⟩ := hok
    have f0 : decide (s < 0) = false := decide_eq_false (by omega)
    have f1 : decide (sn < s) = false := decide_eq_false (by omega)
    have HVV : Hid (snipV t s = (⟨s, pickV (fun _ => true) s t.recs⟩, 0)) := Lib.hid (by rw [HV.out _ HRB.out, if_pos ⟨rfl, h0, h1⟩])
    have HPK := Lib.hid (HPK.out HRB.out h0)
    clear h0 h1
    go_upto_region 3 with (go_at_call 16; refine (HR.out W BW.out).mono ?_; rintro e V ⟨rfl, hB1⟩; have c0 := (hB1.cell (World.block_lt_of_cell? _ _ c0)).trans c0; have c1 := (hB1.cell (World.block_lt_of_cell? _ _ c1)).trans c1)
    have BV := keep BW hB1
    have bq := Lib.hid (bq.out.later hB1 bq.out.lt)
    have bqlt := Lib.hid bq.out.lt
    clear hB1
    obtain ⟨m, hm⟩ : ∃ m, (pickV (fun _ => true) s t.recs).length = m := ⟨_, rfl⟩
    have HM := Lib.hid hm
    clear hm
    go_wp2_with (go_at_call 59; refine (HPK.out V BV.out).mono ?_; rintro e V2 ⟨v, ds, rfl, hT, hB2⟩; obtain ⟨pv, cv, hv, _, _, _⟩ := hT.rat; rw [HM.out] at hv; subst hv; have bq := Lib.hid (bq.out.later hB2 bq.out.lt); have q0 : V2.cell? ⟨b0 + 1, 0, none⟩ = some (.int .i64 0) := bq.out.cell _; have q1 : V2.cell? ⟨b0 + 1, 1, none⟩ = some (.slice none 0 0) := bq.out.cell _; have g0 : V2.frozen? ⟨b0 + 1, 0, none⟩ = false := bq.out.frozen _; have g1 : V2.frozen? ⟨b0 + 1, 1, none⟩ = false := bq.out.frozen _)
    obtain ⟨k1, k2, k3⟩ := tape_fin s bq.out hT (by have := bqlt.out; omega) (keep BV hB2).out (by rw [HB0.out]; omega) BV.out.size
    refine bodyPost_ret (v := .tuple #[.agg #[.int .i64 s, .slice pv m cv], .int .i64 0]) (by exact results_cell2 (fn := Tryz.f28) rfl _ _ (b0 + 1) 24 _ _ rfl k1 Tryz.underlying24 rfl tape_size) rfl ⟨.slice pv m cv, ds, ?_, ?_, k3⟩
    · rw [HVV.out]
    · rw [HVV.out]; exact k2
  · have HVV : Hid (snipV t s = (⟨0, []⟩, 1)) := Lib.hid (by rw [HV.out _ HRB.out, if_neg hok])
    have hcase : rb = false ∨ (rb = true ∧ s < 0) ∨ (rb = true ∧ 0 ≤ s ∧ sn < s) := by
      cases rb
      · exact .inl rfl
      · by_cases h0 : s < 0
        · exact .inr (.inl ⟨rfl, h0⟩)
        · refine .inr (.inr ⟨rfl, by omega, ?_⟩)
          by_cases h1 : sn < s
          · exact h1
          · exact absurd ⟨rfl, by omega, by omega⟩ hok
    clear hok HPK
    rcases hcase with rfl | ⟨rfl, h0⟩ | ⟨rfl, h0, h1⟩
    case' inr.inl => have f0 : decide (s < 0) = true := decide_eq_true h0
    case' inr.inr => have f0 : decide (s < 0) = false := decide_eq_false (by omega); have f1 : decide (sn < s) = true := decide_eq_true h1
    all_goals
      go_wp2_with (go_at_call 16; refine (HR.out W BW.out).mono ?_; rintro e V ⟨rfl, hB1⟩; have c0 := (hB1.cell (World.block_lt_of_cell? _ _ c0)).trans c0; have bq := Lib.hid (bq.out.later hB1 bq.out.lt); have q0 : V.cell? ⟨b0 + 1, 0, none⟩ = some (.int .i64 0) := bq.out.cell _; have q1 : V.cell? ⟨b0 + 1, 1, none⟩ = some (.slice none 0 0) := bq.out.cell _; have g0 : V.frozen? ⟨b0 + 1, 0, none⟩ = false := bq.out.frozen _; have g1 : V.frozen? ⟨b0 + 1, 1, none⟩ = false := bq.out.frozen _)
      obtain ⟨k1, k2, k3⟩ := tape_fin (w := w) 0 bq.out (TO.nil _ (b0 + 2)) (by omega) (keep BW hB1).out (by rw [HB0.out]; omega) (by rw [HB0.out]; omega)
      refine bodyPost_ret (v := .tuple #[.agg #[.int .i64 0, .slice none 0 0], .int .i64 1]) (by exact results_cell2 (fn := Tryz.f28) rfl _ _ (b0 + 1) 24 _ _ rfl k1 Tryz.underlying24 rfl tape_size) rfl ⟨.slice none 0 0, [], ?_, ?_, k3⟩
      · rw [HVV.out]
      · rw [HVV.out]; exact k2
end Go.Proofs.YtpciggnanlflkaaGreatDoor.Ad
