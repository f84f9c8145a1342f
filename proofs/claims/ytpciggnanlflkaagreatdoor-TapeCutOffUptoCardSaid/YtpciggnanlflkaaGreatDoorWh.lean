/- Contract of the laws' mine. Conditions: none beyond those that each theorem states. -/
import Derived.Test.YtpciggnanlflkaaGreatDoorWg
namespace Go.Proofs.YtpciggnanlflkaaGreatDoor.Ad
set_option linter.unusedVariables false
set_option linter.unusedSimpArgs false
open Go.RowKit Go.Maps W
theorem box3 {w W : World} {t t' t'' : TypeId} {cs cs' cs'' : Array Value} (h : W = ((w.alloc (.cells cs t)).alloc (.cells cs' t')).alloc (.cells cs'' t'')) :
    Hid (Blk W w.heap.size t cs) ∧ Hid (Blk W (w.heap.size + 1) t' cs') ∧ Hid (Blk W (w.heap.size + 1 + 1) t'' cs'') ∧ Hid (Below w.heap.size w W) ∧ Hid (W.heap.size = w.heap.size + 3) := by
  obtain ⟨h1, h2, h3, h4⟩ := box2 (W := (w.alloc (.cells cs t)).alloc (.cells cs' t')) rfl
  obtain ⟨h5, h6, h7⟩ := box1 h
  have e := h4.out
  exact ⟨Lib.hid (h1.out.later h6.out h1.out.lt), Lib.hid (h2.out.later h6.out h2.out.lt), Lib.hid (by have := h5.out; rw [e] at this; exact this), Lib.hid (h3.out.trans (h6.out.mono h3.out.size)), Lib.hid (by rw [h7.out, e])⟩
theorem tape_size : (Tryz.prog.info? 24).map (·.size) = some 2 := by kernel_rfl
/-- What a list in a struct's second cell is written over by. -/
def Sb (b B : Nat) : Nat → Prop := fun k => k = b ∨ B ≤ k
theorem TO.step {wr V2 w1 : World} {B b g cap n : Nat} {v : Value} {l : List Rec} {ds : List Value} (h : TO wr B v l ds) (hn : l.length = n) (hw : Below wr.heap.size wr V2) (hB : B ≤ wr.heap.size) (hb : b < B) (r : Rec) (d : Value)
    (hd : V2.ownsRow wr.heap.size 5 1 d r.data.length (Lib.byteCells r.data)) (cs : Array Value) (hown : w1.ownsRow B 48 5 (.slice (some ⟨g, 0, none⟩) (n + 1) cap) (n + 1) (cellsR l ds ++ recC r d))
    (hg : (v.ownBlock = some g ∧ (V2.alloc (.cells cs 48)).grownBy w1 (some g)) ∨ (g = (V2.alloc (.cells cs 48)).heap.size ∧ (V2.alloc (.cells cs 48)).grownBy w1 none)) :
    Hid (TO (w1.setCell ⟨b, 1, none⟩ (.slice (some ⟨g, 0, none⟩) (n + 1) cap)) B (.slice (some ⟨g, 0, none⟩) (n + 1) cap) (l ++ [r]) (ds ++ [d])) ∧ Hid (Fr (Sb b B) wr (w1.setCell ⟨b, 1, none⟩ (.slice (some ⟨g, 0, none⟩) (n + 1) cap))) ∧
      (∀ t s, Blk wr b t #[s, v] → Hid (Blk (w1.setCell ⟨b, 1, none⟩ (.slice (some ⟨g, 0, none⟩) (n + 1) cap)) b t #[s, .slice (some ⟨g, 0, none⟩) (n + 1) cap])) := by
  have hA : Below V2.heap.size V2 (V2.alloc (.cells cs 48)) := (Below.refl _ _).alloc (Nat.le_refl _) _
  have hw2 := hw.trans (hA.mono hw.size)
  have ap : Ap v (V2.alloc (.cells cs 48)) (.slice (some ⟨g, 0, none⟩) (n + 1) cap) w1 := Ap.row hg
  have ht := h.push hw2 hB r d (own_later hd hA) (by rw [hn]; exact hown) ap
  have hf : Fr (Sb b B) wr w1 := (Fr.of hw2).step ap.fr fun k _ e => .inr (own_ge h.own k e)
  refine ⟨Lib.hid (ht.fr fr_set (fun k hk e => ?_) (fun x hx k hk e => ?_)), Lib.hid (hf.step fr_set fun k _ e => .inl e), fun t s hblk => Lib.hid ?_⟩
  · have := own_ge ht.own k hk; omega
  · have := (ht.dlt hx k hk).1; omega
  · have h1 := hf.blk hblk (S := Sb b B)
    have h2 : Blk w1 b t #[s, v] := by
      have h3 := hblk.later hw2 hblk.lt
      exact ap.blk h3 fun e => by have := own_ge h.own _ e; omega
    exact h2.set_ 1 _
theorem TO.mid {wr V2 w1 : World} {B b g : Nat} {v : Value} {l : List Rec} {ds : List Value} (h : TO wr B v l ds) (hw : Below wr.heap.size wr V2) (hb : b < B) (cs : Array Value)
    (hg : (v.ownBlock = some g ∧ (V2.alloc (.cells cs 48)).grownBy w1 (some g)) ∨ (g = (V2.alloc (.cells cs 48)).heap.size ∧ (V2.alloc (.cells cs 48)).grownBy w1 none))
    {t : TypeId} {s : Value} (hblk : Blk wr b t #[s, v]) : Blk w1 b t #[s, v] := by
  have hA : Below V2.heap.size V2 (V2.alloc (.cells cs 48)) := (Below.refl _ _).alloc (Nat.le_refl _) _
  have h3 := hblk.later (hw.trans (hA.mono hw.size)) hblk.lt
  exact (fr_row hg).blk h3 fun e => by have := own_ge h.own _ e; omega
theorem news_of (w : World) (t : TypeId) (cs : List Value) : ∀ j u, cs[j]? = some u → (w.alloc (.cells cs.toArray t)).cell? ((⟨w.heap.size, 0, none⟩ : Go.Addr).add j) = some u := fun j u hu => by
  rw [Addr.add_lit, (Blk.new w t cs.toArray).cell, Nat.zero_add]
  simpa using hu
set_option maxRecDepth 100000 in
set_option maxHeartbeats 4000000 in
theorem mine_calls (t : Tp) (p : Option Go.Addr) (c : Nat) (w : World) (hp : RAt w p t.recs) (hl : t.recs.length ≤ 1048576) (hd : ∀ r ∈ t.recs, r.data.length ≤ 1048576) : Calls Tryz.prog 11 #[.agg #[.int .i64 t.snap, .slice p t.recs.length c]] w fun e w' =>
    ∃ v ds, e = .returned (.agg #[.int .i64 t.snap, v]) ∧ TO w' w.heap.size v t.recs ds ∧ Below w.heap.size w w' := by
  have HP := Lib.hid hp
  obtain ⟨n, hn⟩ : ∃ n, t.recs.length = n := ⟨_, rfl⟩
  have HN := Lib.hid hn
  obtain ⟨sn, hsn⟩ : ∃ n, t.snap = n := ⟨_, rfl⟩
  rw [hsn, hn]
  have hb32 : n ≤ 1048576 := by rw [← hn]; exact hl
  have HD := Lib.hid hd
  clear hp hn hsn hl hd
  obtain ⟨i0, hi, hz0, hz1, hz2⟩ := info_parts rec_info
  go_enter Tryz.func11, Tryz.ntmps11
  go_upto_region 3 with fail
  refine wp_named fun W hW => ?_
  obtain ⟨bk, bq, bo, BW, sW⟩ := box3 hW
  obtain ⟨b0, hb0⟩ : ∃ b, w.heap.size = b := ⟨_, rfl⟩
  have HB0 := Lib.hid hb0
  rw [hb0] at bk bq bo sW ⊢
  clear hW hb0
  go_loopw [4, 5] (fun u4 _ wr => ∃ (k : Nat) (v : Value) (ds : List Value), u4 = .int .i64 k ∧ k ≤ n ∧ Hid (Blk wr (b0 + 1 + 1) 24 #[.int .i64 sn, v]) ∧ Hid (TO wr (b0 + 3) v (t.recs.take k) ds) ∧ Hid (Fr (Sb (b0 + 1 + 1) (b0 + 3)) W wr)) (fun u4 _ _ => n - (intOf u4).toNat)
  case atStart => exact ⟨0, _, [], rfl, Nat.zero_le _, bo, Lib.hid (by simpa using TO.nil W (b0 + 3)), Lib.hid (Fr.refl _ _)⟩
  case round =>
    clear bo
    obtain ⟨k, v, ds, rfl, hk, bo, HT, HF⟩ := hrel
    have HB : Hid (Below b0 w wr) := Lib.hid (by have := BW.out; rw [HB0.out] at this; exact this.trans (HF.out.below (fun k hk e => by rcases e with e | e <;> omega) (by have := sW.out; omega)))
    have HS : Hid (b0 + 3 ≤ wr.heap.size) := Lib.hid (by have := sW.out; have := HF.out.size; omega)
    have c1 : wr.cell? ⟨b0, 1, none⟩ = some (.slice p n c) := (HF.out.blk bk.out (fun e => by rcases e with e | e <;> omega)).cell _
    by_cases hlt : k < n
    · have x1 : decide ((k : Int) < (n : Int)) = true := decide_eq_true (by omega)
      have x1' : decide (k < n) = true := decide_eq_true hlt
      have HK : Hid (k < t.recs.length) := Lib.hid (by have := HN.out; omega)
      obtain ⟨r, hr⟩ : ∃ r, t.recs[k]? = some r := ⟨_, List.getElem?_eq_getElem HK.out⟩
      have HRR := Lib.hid hr
      have HDL := Lib.hid (HD.out r (List.mem_of_getElem? hr))
      obtain ⟨g, o, rfl, hgl, pd, cd, hr5, hbd, _⟩ := own_cellsB (HP.out.later (by rw [HB0.out]; exact HB.out)) hr
      have HDT := Lib.hid hbd
      have HTN : Hid ((t.recs.take k).length = k) := Lib.hid (by rw [List.length_take, HN.out]; omega)
      have HTK : Hid (t.recs.take (k + 1) = t.recs.take k ++ [r]) := Lib.hid (by rw [List.take_add_one, hr]; rfl)
      clear hr hbd hgl
      obtain ⟨l, hl⟩ : ∃ l, t.recs.take k = l := ⟨_, rfl⟩
      rw [hl] at HT HTN HTK
      obtain ⟨tk, nd, ou, lg, dt⟩ := r
      have d0 : wr.cell? ⟨g, o + k * 5, none⟩ = some (.int .i64 tk) := hr5 0 _ rfl
      have d1 : wr.cell? ⟨g, o + k * 5 + 1, none⟩ = some (.int .i64 nd) := hr5 1 _ rfl
      have d2 : wr.cell? ⟨g, o + k * 5 + 2, none⟩ = some (.bool ou) := hr5 2 _ rfl
      have d3 : wr.cell? ⟨g, o + k * 5 + 3, none⟩ = some (.int .i64 lg) := hr5 3 _ rfl
      have d4 : wr.cell? ⟨g, o + k * 5 + 4, none⟩ = some (.slice pd dt.length cd) := hr5 4 _ rfl
      obtain ⟨dn, hdn⟩ : ∃ q, dt.length = q := ⟨_, rfl⟩
      have HDN := Lib.hid hdn
      rw [hdn] at d4
      clear hr5 hdn hl
      go_upto_region 6 with fail
      refine wp_named fun V hV => ?_
      obtain ⟨b3, B3, s3⟩ := box1 hV
      have HDT := Lib.hid (HDT.out.later B3.out)
      obtain ⟨G, hG⟩ : ∃ g, wr.heap.size = g := ⟨_, rfl⟩
      have HG := Lib.hid hG
      rw [hG] at b3 s3 ⊢
      clear hV hG d0 d1 d2 d3 d4
      have e4 : V.cell? ⟨G, 4, none⟩ = some (.slice pd dn cd) := b3.out.cell _
      have f4 : ∀ z, Below V.heap.size V z → z.frozen? ⟨G, 4, none⟩ = false := fun z hz => (b3.out.later hz b3.out.lt).frozen 4
      go_upto_region 7 with (go_at_call 19; refine (own_calls dt pd dn cd HDN.out.symm (Nat.le_trans HDL.out (by omega)) V HDT.out).mono ?_; rintro e V1 ⟨d, rfl, hd1, hB1⟩; obtain ⟨p1, c1', rfl, _, _, _⟩ := own_bytes hd1; have f4 := f4 _ hB1; have e4 := (hB1.cell (World.block_lt_of_cell? _ _ e4)).trans e4)
      refine wp_named fun V2 hV2 => ?_
      have b4 : Hid (Blk V2 G 48 (recC ⟨tk, nd, ou, lg, dt⟩ (.slice p1 dt.length c1')).toArray) := Lib.hid (by rw [hV2]; exact (b3.out.later hB1 b3.out.lt).set_ 4 _)
      have HB2 : Hid (Below wr.heap.size wr V2) := Lib.hid (by
        rw [hV2]
        exact (B3.out.trans (hB1.mono (by have := B3.out.size; omega))).setCell (p := ⟨G, 4, none⟩) (by have := HG.out; show wr.heap.size ≤ G; omega) _)
      have HD2 : Hid (V2.ownsRow wr.heap.size 5 1 (.slice p1 dt.length c1') dt.length (Lib.byteCells dt)) := Lib.hid (by
        rw [hV2]
        exact own_base (ownsRow_setCell_below hd1 (by exact b3.out.lt) _) (by have := B3.out.size; omega))
      clear hV2 hd1 hB1 b3 B3 s3 e4 f4
      have o1 : V2.cell? ⟨b0 + 1 + 1, 1, none⟩ = some v := (bo.out.later HB2.out bo.out.lt).cell _
      have f1 : V2.frozen? ⟨b0 + 1 + 1, 1, none⟩ = false := (bo.out.later HB2.out bo.out.lt).frozen _
      have r0 : V2.cell? ⟨G, 0, none⟩ = some (.int .i64 tk) := b4.out.cell _
      have r1 : V2.cell? ⟨G, 1, none⟩ = some (.int .i64 nd) := b4.out.cell _
      have r2 : V2.cell? ⟨G, 2, none⟩ = some (.bool ou) := b4.out.cell _
      have r3 : V2.cell? ⟨G, 3, none⟩ = some (.int .i64 lg) := b4.out.cell _
      have r4 : V2.cell? ⟨G, 4, none⟩ = some (.slice p1 dt.length c1') := b4.out.cell _
      have HW : Hid (V2.ownsRow (b0 + 3) 48 5 v k (cellsR l ds)) := Lib.hid (by have := (HT.out.later HB2.out).own; rwa [HTN.out] at this)
      have HSV : Hid (b0 + 3 ≤ V2.heap.size) := Lib.hid (Nat.le_trans HS.out HB2.out.size)
      go_wp2_with (at_builtin; refine wpList_append_two rfl _ _ 22 rfl 48 i0 _ 5 56 Tryz.underlying22 hi hz0 hz1 hz2 (by rfl) (by omega) (b0 + 3) v k _ rfl (World.ownsRow.alloc HW.out _) ⟨V2.heap.size, 0, none⟩ 1 1 (recC ⟨tk, nd, ou, lg, dt⟩ (.slice p1 dt.length c1')) rfl rfl (news_of _ _ _) (recC_one _ _ _ _) (by omega) (by unfold maxLen; omega) (by omega) (by have := HSV.out; simp; omega) ?_; intro g2 cap w1 hown hgr hlt2; have bm := HT.out.mid HB2.out (show b0 + 1 + 1 < b0 + 3 by omega) _ hgr bo.out; have m1 : w1.cell? ⟨b0 + 1 + 1, 1, none⟩ = some v := bm.cell _; have fm : w1.frozen? ⟨b0 + 1 + 1, 1, none⟩ = false := bm.frozen _; clear bm)
      obtain ⟨q1, q2, q3⟩ := HT.out.step HTN.out HB2.out HS.out (show b0 + 1 + 1 < b0 + 3 by omega) ⟨tk, nd, ou, lg, dt⟩ _ HD2.out _ hown hgr
      rw [← HTK.out] at q1
      exact ⟨⟨k + 1, _, _, by go_num, by omega, q3 _ _ bo.out, q1, Lib.hid (HF.out.trans q2.out)⟩, by simp [intOf]; omega⟩
    · have x1 : decide ((k : Int) < (n : Int)) = false := decide_eq_false (by omega)
      have x1' : decide (k < n) = false := decide_eq_false hlt
      have HTK : Hid (t.recs.take k = t.recs) := Lib.hid (List.take_of_length_le (by have := HN.out; omega))
      have o0 : wr.cell? ⟨b0 + 1 + 1, 0, none⟩ = some (.int .i64 sn) := bo.out.cell _
      have o1 : wr.cell? ⟨b0 + 1 + 1, 1, none⟩ = some v := bo.out.cell _
      have bq := Lib.hid (HF.out.blk bq.out (fun e => by rcases e with e | e <;> omega))
      have q0 : wr.cell? ⟨b0 + 1, 0, none⟩ = some (.int .i64 0) := bq.out.cell _
      have q1 : wr.cell? ⟨b0 + 1, 1, none⟩ = some (.slice none 0 0) := bq.out.cell _
      have f0 : wr.frozen? ⟨b0 + 1, 0, none⟩ = false := bq.out.frozen _
      have f1 : wr.frozen? ⟨b0 + 1, 1, none⟩ = false := bq.out.frozen _
      clear hlt
      have hT := HT.out
      rw [HTK.out] at hT
      obtain ⟨pv, cv, hv, _, _, _⟩ := hT.rat
      rw [HN.out] at hv
      subst hv
      have HT := Lib.hid hT
      clear hT
      go_wp2
      have hf2 : Fr (fun k => k = b0 + 1) wr ((wr.setCell ⟨b0 + 1, 0, none⟩ (.int .i64 sn)).setCell ⟨b0 + 1, 1, none⟩ (.slice pv n cv)) := Fr.trans fr_set fr_set
      refine bodyPost_ret (v := .agg #[.int .i64 sn, .slice pv n cv]) (by exact results_cell_row (fn := Tryz.f11) rfl _ _ (b0 + 1) 24 _ (0, 0) _ rfl ((bq.out.set_ 0 (.int .i64 sn)).set_ 1 (.slice pv n cv)) Tryz.underlying24 rfl tape_size) rfl ⟨_, ds, rfl, ?_, ?_⟩
      · rw [HB0.out]
        exact (HT.out.fr hf2 (fun k hk e => by have := own_ge HT.out.own k hk; omega) (fun x hx k hk e => by have := (HT.out.dlt hx k hk).1; omega)).base (by omega)
      · rw [HB0.out]
        exact HB.out.trans (hf2.below (fun k hk e => by omega) (by have := HS.out; omega))
end Go.Proofs.YtpciggnanlflkaaGreatDoor.Ad
