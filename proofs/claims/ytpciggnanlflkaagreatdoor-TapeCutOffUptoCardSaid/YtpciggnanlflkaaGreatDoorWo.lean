/- Contract of tape.Between. Conditions: none beyond those that the theorem states. -/
import Derived.Test.YtpciggnanlflkaaGreatDoorWn
namespace Go.Proofs.YtpciggnanlflkaaGreatDoor.Ad
set_option linter.unusedVariables false
set_option linter.unusedSimpArgs false
open Go.RowKit Go.Maps W
def tickV (a b : Int) (r : Rec) : Bool := decide (a ≤ r.tk ∧ r.tk < b)
/-- What Between answers. -/
def betweenV (t : Tp) (a b : Int) : Tp × Int := if rightV t = true then (⟨t.snap, pickV (tickV a b) t.snap t.recs⟩, 0) else (⟨0, []⟩, 1)
theorem right_snap {t : Tp} (h : rightV t = true) : 0 ≤ t.snap ∧ t.snap ≤ 65575 := by
  unfold rightV at h
  rw [Bool.and_eq_true] at h
  have := of_decide_eq_true h.1
  exact ⟨this.1, this.2.1⟩
theorem enters61 : ∀ args w, (callFunc 61 args).run Tryz.prog w = .ok (.enter 61 args) w := Go.Proofs.enters_of Tryz.func61 (by kernel_rfl) rfl
set_option maxRecDepth 100000 in
set_option maxHeartbeats 2000000 in
theorem wants61 (x y : Nat) (a b : Int) (w : World) (l : List Rec) (hx : w.cell? ⟨x, 0, none⟩ = some (.int .i64 a)) (hy : w.cell? ⟨y, 0, none⟩ = some (.int .i64 b)) : Wants 61 #[.pointer (some ⟨x, 0, none⟩), .pointer (some ⟨y, 0, none⟩)] (tickV a b) w l := fun w' hw r _ pd cd _ _ => by
  have cx := (hw.cell (World.block_lt_of_cell? _ _ hx)).trans hx
  have cy := (hw.cell (World.block_lt_of_cell? _ _ hy)).trans hy
  obtain ⟨tk, nd, ou, lg, dt⟩ := r
  simp only [recC]
  obtain ⟨dn, hdn⟩ : ∃ n, dt.length = n := ⟨_, rfl⟩
  rw [hdn]
  obtain ⟨tv, htv⟩ : ∃ b', tickV a b ⟨tk, nd, ou, lg, dt⟩ = b' := ⟨_, rfl⟩
  rw [htv]
  have HTV := Lib.hid htv
  clear hdn hx hy htv
  go_enter Tryz.func61, Tryz.ntmps61
  go_upto_region 1 with fail
  refine wp_named fun W hW => ?_
  obtain ⟨bk, BW, sW⟩ := box1 hW
  have c0 : W.cell? ⟨w'.heap.size, 0, none⟩ = some (.int .i64 tk) := bk.out.cell _
  have cx := (BW.out.cell (World.block_lt_of_cell? _ _ cx)).trans cx
  have cy := (BW.out.cell (World.block_lt_of_cell? _ _ cy)).trans cy
  clear hW
  by_cases h1 : a ≤ tk
  · by_cases h2 : tk < b
    · have e1 : decide (a ≤ tk) = true := decide_eq_true h1
      have e2 : decide (tk < b) = true := decide_eq_true h2
      have HF : Hid (tv = true) := Lib.hid (by rw [← HTV.out]; exact decide_eq_true ⟨h1, h2⟩)
      clear h1 h2
      go_wp2
      go_ret
      exact ⟨by rw [HF.out]; rfl, BW.out⟩
    · have e1 : decide (a ≤ tk) = true := decide_eq_true h1
      have e2 : decide (tk < b) = false := decide_eq_false h2
      have HF : Hid (tv = false) := Lib.hid (by rw [← HTV.out]; exact decide_eq_false fun h => h2 h.2)
      clear h1 h2
      go_wp2
      go_ret
      exact ⟨by rw [HF.out]; rfl, BW.out⟩
  · have e1 : decide (a ≤ tk) = false := decide_eq_false h1
    have HF : Hid (tv = false) := Lib.hid (by rw [← HTV.out]; exact decide_eq_false fun h => h1 h.1)
    clear h1
    go_wp2
    go_ret
    exact ⟨by rw [HF.out]; rfl, BW.out⟩
theorem box4 {w W : World} {t t' t'' u : TypeId} {cs cs' cs'' ds : Array Value} (h : W = (((w.alloc (.cells cs t)).alloc (.cells cs' t')).alloc (.cells cs'' t'')).alloc (.cells ds u)) :
    Hid (Blk W w.heap.size t cs) ∧ Hid (Blk W (w.heap.size + 1) t' cs') ∧ Hid (Blk W (w.heap.size + 1 + 1) t'' cs'') ∧ Hid (Blk W (w.heap.size + 1 + 1 + 1) u ds) ∧ Hid (Below w.heap.size w W) ∧ Hid (W.heap.size = w.heap.size + 4) := by
  obtain ⟨h1, h2, h3, h4, h5⟩ := box3 (W := ((w.alloc (.cells cs t)).alloc (.cells cs' t')).alloc (.cells cs'' t'')) rfl
  obtain ⟨h6, h7, h8⟩ := box1 h
  have e := h5.out
  exact ⟨Lib.hid (h1.out.later h7.out h1.out.lt), Lib.hid (h2.out.later h7.out h2.out.lt), Lib.hid (h3.out.later h7.out h3.out.lt), Lib.hid (by have := h6.out; rw [e] at this; exact this), Lib.hid (h4.out.trans (h7.out.mono h4.out.size)), Lib.hid (by rw [h8.out, e])⟩
set_option maxRecDepth 100000 in
set_option maxHeartbeats 4000000 in
theorem between_calls (t : Tp) (x y : Int) (p : Option Go.Addr) (c : Nat) (w : World) (hp : RAt w p t.recs) : Calls Tryz.prog 30 #[.agg #[.int .i64 t.snap, .slice p t.recs.length c], .int .i64 x, .int .i64 y] w fun e w' =>
    ∃ v ds, e = .returned (.tuple #[.agg #[.int .i64 (betweenV t x y).1.snap, v], .int .i64 (betweenV t x y).2]) ∧ TO w' w.heap.size v (betweenV t x y).1.recs ds ∧ Below w.heap.size w w' := by
  have HP := Lib.hid hp
  have HR := Lib.hid (fun w' (h : Below w.heap.size w w') => right_calls t p c w' (hp.later h))
  have HPK := Lib.hid (fun (h1 : rightV t = true) w' (h : Below w.heap.size w w') g1 g2 hg1 hg2 => picked_calls 61 #[.pointer (some ⟨g1, 0, none⟩), .pointer (some ⟨g2, 0, none⟩)] (tickV x y) enters61 t p c t.snap (right_snap h1).1 w' (hp.later h) (Nat.le_trans (right_len h1) (by omega)) (fun r hr => Nat.le_trans (right_data h1 r hr) (by omega)) (wants61 g1 g2 x y w' t.recs hg1 hg2))
  have HV : Hid (∀ b, rightV t = b → betweenV t x y = if b = true then (⟨t.snap, pickV (tickV x y) t.snap t.recs⟩, 0) else (⟨0, []⟩, 1)) := Lib.hid fun b hb => by rw [← hb]; rfl
  obtain ⟨rb, hrb⟩ : ∃ b, rightV t = b := ⟨_, rfl⟩
  have HRB := Lib.hid hrb
  obtain ⟨n, hn⟩ : ∃ n, t.recs.length = n := ⟨_, rfl⟩
  obtain ⟨sn, hsn⟩ : ∃ n, t.snap = n := ⟨_, rfl⟩
  rw [hn, hsn] at HR HPK
  rw [hn, hsn]
  rw [hsn] at HV
  rw [hrb] at HR
  clear hp hrb hn hsn
  go_enter Tryz.func30, Tryz.ntmps30
  go_upto_region 1 with fail
  refine wp_named fun W hW => ?_
  obtain ⟨bk, bx, by', bq, BW, sW⟩ := box4 hW
  obtain ⟨b0, hb0⟩ : ∃ b, w.heap.size = b := ⟨_, rfl⟩
  have HB0 := Lib.hid hb0
  have c0 : W.cell? ⟨w.heap.size, 0, none⟩ = some (.int .i64 sn) := bk.out.cell _
  have c1 : W.cell? ⟨w.heap.size, 1, none⟩ = some (.slice p n c) := bk.out.cell _
  rw [hb0] at bk bx by' bq sW c0 c1 ⊢
  clear hW hb0
  cases rb
  · have HVV : Hid (betweenV t x y = (⟨0, []⟩, 1)) := Lib.hid (HV.out _ HRB.out)
    clear HPK
    go_wp2_with (go_at_call 16; refine (HR.out W BW.out).mono ?_; rintro e V ⟨rfl, hB1⟩; have c0 := (hB1.cell (World.block_lt_of_cell? _ _ c0)).trans c0; have bq := Lib.hid (bq.out.later hB1 bq.out.lt); have q0 : V.cell? ⟨b0 + 1 + 1 + 1, 0, none⟩ = some (.int .i64 0) := bq.out.cell _; have q1 : V.cell? ⟨b0 + 1 + 1 + 1, 1, none⟩ = some (.slice none 0 0) := bq.out.cell _; have g0 : V.frozen? ⟨b0 + 1 + 1 + 1, 0, none⟩ = false := bq.out.frozen _; have g1 : V.frozen? ⟨b0 + 1 + 1 + 1, 1, none⟩ = false := bq.out.frozen _)
    obtain ⟨k1, k2, k3⟩ := tape_fin (w := w) 0 bq.out (TO.nil _ (b0 + 4)) (by omega) (keep BW hB1).out (by rw [HB0.out]; omega) (by rw [HB0.out]; omega)
    refine bodyPost_ret (v := .tuple #[.agg #[.int .i64 0, .slice none 0 0], .int .i64 1]) (by exact results_cell2 (fn := Tryz.f30) rfl _ _ (b0 + 1 + 1 + 1) 24 _ _ rfl k1 Tryz.underlying24 rfl tape_size) rfl ⟨.slice none 0 0, [], ?_, ?_, k3⟩
    · rw [HVV.out]
    · rw [HVV.out]; exact k2
  · have HVV : Hid (betweenV t x y = (⟨sn, pickV (tickV x y) sn t.recs⟩, 0)) := Lib.hid (HV.out _ HRB.out)
    have HPK := Lib.hid (HPK.out HRB.out)
    obtain ⟨m, hm⟩ : ∃ m, (pickV (tickV x y) sn t.recs).length = m := ⟨_, rfl⟩
    have HM := Lib.hid hm
    clear hm
    go_upto_region 3 with (go_at_call 16; refine (HR.out W BW.out).mono ?_; rintro e V ⟨rfl, hB1⟩; have c0 := (hB1.cell (World.block_lt_of_cell? _ _ c0)).trans c0; have c1 := (hB1.cell (World.block_lt_of_cell? _ _ c1)).trans c1)
    have BV := keep BW hB1
    have bq := Lib.hid (bq.out.later hB1 bq.out.lt)
    have bx := Lib.hid (bx.out.later hB1 bx.out.lt)
    have by' := Lib.hid (by'.out.later hB1 by'.out.lt)
    have bqlt := Lib.hid bq.out.lt
    clear hB1
    go_wp2_with (go_at_call 59; refine (HPK.out V BV.out (b0 + 1) (b0 + 1 + 1) (bx.out.cell _) (by'.out.cell _)).mono ?_; rintro e V2 ⟨v, ds, rfl, hT, hB2⟩; obtain ⟨pv, cv, hv, _, _, _⟩ := hT.rat; rw [HM.out] at hv; subst hv; have bq := Lib.hid (bq.out.later hB2 bq.out.lt); have q0 : V2.cell? ⟨b0 + 1 + 1 + 1, 0, none⟩ = some (.int .i64 0) := bq.out.cell _; have q1 : V2.cell? ⟨b0 + 1 + 1 + 1, 1, none⟩ = some (.slice none 0 0) := bq.out.cell _; have g0 : V2.frozen? ⟨b0 + 1 + 1 + 1, 0, none⟩ = false := bq.out.frozen _; have g1 : V2.frozen? ⟨b0 + 1 + 1 + 1, 1, none⟩ = false := bq.out.frozen _)
    obtain ⟨k1, k2, k3⟩ := tape_fin sn bq.out hT (by have := bqlt.out; omega) (keep BV hB2).out (by rw [HB0.out]; omega) BV.out.size
    refine bodyPost_ret (v := .tuple #[.agg #[.int .i64 sn, .slice pv m cv], .int .i64 0]) (by exact results_cell2 (fn := Tryz.f30) rfl _ _ (b0 + 1 + 1 + 1) 24 _ _ rfl k1 Tryz.underlying24 rfl tape_size) rfl ⟨.slice pv m cv, ds, ?_, ?_, k3⟩
    · rw [HVV.out]
    · rw [HVV.out]; exact k2
end Go.Proofs.YtpciggnanlflkaaGreatDoor.Ad
