/- Contracts of tape.cut and of the closures. Conditions: none beyond those that each theorem states. -/
import Derived.Test.YtpciggnanlflkaaGreatDoorWi
namespace Go.Proofs.YtpciggnanlflkaaGreatDoor.Ad
set_option linter.unusedVariables false
set_option linter.unusedSimpArgs false
open Go.RowKit Go.Maps W
/-- A record of which at most so many bytes are kept. -/
def cutV (r : Rec) (s : Int) : Rec := { r with data := r.data.take s.toNat }
theorem rec_size : (Tryz.prog.info? 48).map (·.size) = some 5 := by kernel_rfl
theorem BAt.take {w : World} {p : Option Go.Addr} {l : List UInt8} (h : BAt w p l) (n : Nat) : BAt w p (l.take n) := by
  rcases h with rfl | ⟨g, o, rfl, hg, hb⟩
  · exact .inl (by simp)
  · refine .inr ⟨g, o, rfl, hg, fun i hi => ?_⟩
    rw [S_size, List.length_take] at hi
    have h1 := hb i (by rw [S_size]; omega)
    rw [h1]
    show some (Value.int .u8 ((l[i]'(by omega)).toNat : Int)) = some (.int .u8 (((l.take n)[i]'(by rw [List.length_take]; omega)).toNat : Int))
    rw [List.getElem_take]
set_option maxRecDepth 100000 in
set_option maxHeartbeats 4000000 in
theorem cut_calls (r : Rec) (pd : Option Go.Addr) (cd : Nat) (snap : Int) (h0 : 0 ≤ snap) (hl : r.data.length ≤ 4294967296) (w : World) (hb : BAt w pd r.data) (hs : SlOk pd r.data.length cd) :
    Calls Tryz.prog 58 #[.agg (recC r (.slice pd r.data.length cd)).toArray, .int .i64 snap] w fun e w' =>
      ∃ d, e = .returned (.agg (recC (cutV r snap) d).toArray) ∧ w'.ownsRow w.heap.size 5 1 d (cutV r snap).data.length (Lib.byteCells (cutV r snap).data) ∧ Below w.heap.size w w' := by
  obtain ⟨tk, nd, ou, lg, dt⟩ := r
  simp only [recC, cutV] at *
  obtain ⟨dn, hdn⟩ : ∃ n, dt.length = n := ⟨_, rfl⟩
  obtain ⟨mn, hmn⟩ : ∃ n : Nat, min (dn : Int) snap = n := ⟨(min (dn : Int) snap).toNat, by omega⟩
  have HMN : Hid ((dt.take snap.toNat).length = mn) := Lib.hid (by rw [List.length_take]; omega)
  have hsl := Lib.hid hs
  have HB := Lib.hid hb
  rw [hdn] at hs hl hsl ⊢
  have hc1 : mn ≤ cd := by have := hs.1; omega
  have HMD : Hid (mn ≤ dn) := Lib.hid (by omega)
  clear hb hs
  go_enter Tryz.func58, Tryz.ntmps58
  go_upto_region 1 with fail
  refine wp_named fun W hW => ?_
  obtain ⟨b1, b2, BW, sW⟩ := box2 hW
  have c4 : W.cell? ⟨w.heap.size, 4, none⟩ = some (.slice pd dn cd) := b1.out.cell _
  obtain ⟨G, hG⟩ : ∃ g, w.heap.size = g := ⟨_, rfl⟩
  rw [hG] at b1 b2 c4 sW ⊢
  clear hW
  have HTK := Lib.hid ((HB.out.take snap.toNat).later (by rw [hG]; have := BW.out; rw [hG] at this; exact this))
  cases pd with
  | none =>
    have hcd := hsl.out.2 rfl
    have hd0 := hsl.out.1
    obtain rfl : cd = 0 := hcd
    obtain rfl : dn = 0 := by omega
    obtain rfl : mn = 0 := by omega
    have hm0 : min (0 : Int) snap = 0 := by omega
    go_upto_region 2 with (go_at_call 47; refine (clone_calls (dt.take snap.toNat) none 0 0 HMN.out.symm (by rw [HMN.out]; omega) ⟨Nat.le_refl _, fun _ => rfl⟩ W HTK.out).mono ?_; rintro e V ⟨d, rfl, hd1, hB1⟩; obtain ⟨p1, c1', rfl, _, _, _⟩ := own_bytes hd1; rw [HMN.out] at hd1 ⊢; have b1 := Lib.hid (b1.out.later hB1 b1.out.lt); have b2 := Lib.hid (b2.out.later hB1 b2.out.lt); have c4 : V.cell? ⟨G, 4, none⟩ = some (.slice none 0 0) := b1.out.cell _; have f4 : V.frozen? ⟨G, 4, none⟩ = false := b1.out.frozen _)
    refine wp_named fun V2 hV2 => ?_
    have b3 : Hid (Blk V2 G 48 #[.int .i64 tk, .int .i64 nd, .bool ou, .int .i64 lg, .slice p1 0 c1']) := Lib.hid (by rw [hV2]; exact b1.out.set_ 4 _)
    have b4 : Hid (Blk V2 (G + 1) 48 #[.int .i64 0, .int .i64 0, .bool false, .int .i64 0, .slice none 0 0]) := Lib.hid (by rw [hV2]; exact b2.out.far (by show G + 1 ≠ G; omega) _)
    have HD2 : Hid (V2.ownsRow W.heap.size 5 1 (.slice p1 0 c1') 0 (Lib.byteCells (dt.take snap.toNat))) := Lib.hid (by rw [hV2]; exact ownsRow_setCell_below hd1 (by have := sW.out; show G < W.heap.size; omega) _)
    have HB2 : Hid (Below w.heap.size w V2) := Lib.hid (by rw [hV2]; exact (keep BW hB1).out.setCell (p := ⟨G, 4, none⟩) (by show w.heap.size ≤ G; omega) _)
    clear hV2 hd1 hB1 b1 b2 c4 f4
    have r0 : V2.cell? ⟨G, 0, none⟩ = some (.int .i64 tk) := b3.out.cell _
    have r1 : V2.cell? ⟨G, 1, none⟩ = some (.int .i64 nd) := b3.out.cell _
    have r2 : V2.cell? ⟨G, 2, none⟩ = some (.bool ou) := b3.out.cell _
    have r3 : V2.cell? ⟨G, 3, none⟩ = some (.int .i64 lg) := b3.out.cell _
    have r4 : V2.cell? ⟨G, 4, none⟩ = some (.slice p1 0 c1') := b3.out.cell _
    have q0 : V2.cell? ⟨G + 1, 0, none⟩ = some (.int .i64 0) := b4.out.cell _
    have f0 : V2.frozen? ⟨G + 1, 0, none⟩ = false := b4.out.frozen _
    have q1 : V2.cell? ⟨G + 1, 1, none⟩ = some (.int .i64 0) := b4.out.cell _
    have f1 : V2.frozen? ⟨G + 1, 1, none⟩ = false := b4.out.frozen _
    have q2 : V2.cell? ⟨G + 1, 2, none⟩ = some (.bool false) := b4.out.cell _
    have f2 : V2.frozen? ⟨G + 1, 2, none⟩ = false := b4.out.frozen _
    have q3 : V2.cell? ⟨G + 1, 3, none⟩ = some (.int .i64 0) := b4.out.cell _
    have f3 : V2.frozen? ⟨G + 1, 3, none⟩ = false := b4.out.frozen _
    have q4 : V2.cell? ⟨G + 1, 4, none⟩ = some (.slice none 0 0) := b4.out.cell _
    have f4 : V2.frozen? ⟨G + 1, 4, none⟩ = false := b4.out.frozen _
    go_wp2
    have hf : Fr (fun k => k = G + 1) V2 (((((V2.setCell ⟨G + 1, 0, none⟩ (.int .i64 tk)).setCell ⟨G + 1, 1, none⟩ (.int .i64 nd)).setCell ⟨G + 1, 2, none⟩ (.bool ou)).setCell ⟨G + 1, 3, none⟩ (.int .i64 lg)).setCell ⟨G + 1, 4, none⟩ (.slice p1 0 c1')) := (((fr_set.trans fr_set).trans fr_set).trans fr_set).trans fr_set
    refine bodyPost_ret (v := .agg #[.int .i64 tk, .int .i64 nd, .bool ou, .int .i64 lg, .slice p1 0 c1']) (by exact results_cell_row (fn := Tryz.f58) rfl _ _ (G + 1) 48 _ (0, 0) _ rfl (((((b4.out.set_ 0 (.int .i64 tk)).set_ 1 (.int .i64 nd)).set_ 2 (.bool ou)).set_ 3 (.int .i64 lg)).set_ 4 (.slice p1 0 c1')) Tryz.underlying48 rfl rec_size) rfl ⟨_, rfl, ?_, ?_⟩
    · rw [HMN.out]
      exact own_base (hf.own HD2.out (fun k hk e => by have := own_ge HD2.out k hk; have := sW.out; omega)) (by have := sW.out; omega)
    · exact HB2.out.trans (hf.below (fun k hk e => by omega) HB2.out.size)
  | some ad =>
    go_upto_region 2 with (go_at_call 47; refine (clone_calls (dt.take snap.toNat) (some ad) mn cd HMN.out.symm (by rw [HMN.out]; omega) ⟨hc1, fun h => by cases h⟩ W HTK.out).mono ?_; rintro e V ⟨d, rfl, hd1, hB1⟩; obtain ⟨p1, c1', rfl, _, _, _⟩ := own_bytes hd1; rw [HMN.out] at hd1 ⊢; have b1 := Lib.hid (b1.out.later hB1 b1.out.lt); have b2 := Lib.hid (b2.out.later hB1 b2.out.lt); have c4 : V.cell? ⟨G, 4, none⟩ = some (.slice (some ad) dn cd) := b1.out.cell _; have f4 : V.frozen? ⟨G, 4, none⟩ = false := b1.out.frozen _)
    refine wp_named fun V2 hV2 => ?_
    have b3 : Hid (Blk V2 G 48 #[.int .i64 tk, .int .i64 nd, .bool ou, .int .i64 lg, .slice p1 mn c1']) := Lib.hid (by rw [hV2]; exact b1.out.set_ 4 _)
    have b4 : Hid (Blk V2 (G + 1) 48 #[.int .i64 0, .int .i64 0, .bool false, .int .i64 0, .slice none 0 0]) := Lib.hid (by rw [hV2]; exact b2.out.far (by show G + 1 ≠ G; omega) _)
    have HD2 : Hid (V2.ownsRow W.heap.size 5 1 (.slice p1 mn c1') mn (Lib.byteCells (dt.take snap.toNat))) := Lib.hid (by rw [hV2]; exact ownsRow_setCell_below hd1 (by have := sW.out; show G < W.heap.size; omega) _)
    have HB2 : Hid (Below w.heap.size w V2) := Lib.hid (by rw [hV2]; exact (keep BW hB1).out.setCell (p := ⟨G, 4, none⟩) (by show w.heap.size ≤ G; omega) _)
    clear hV2 hd1 hB1 b1 b2 c4 f4
    have r0 : V2.cell? ⟨G, 0, none⟩ = some (.int .i64 tk) := b3.out.cell _
    have r1 : V2.cell? ⟨G, 1, none⟩ = some (.int .i64 nd) := b3.out.cell _
    have r2 : V2.cell? ⟨G, 2, none⟩ = some (.bool ou) := b3.out.cell _
    have r3 : V2.cell? ⟨G, 3, none⟩ = some (.int .i64 lg) := b3.out.cell _
    have r4 : V2.cell? ⟨G, 4, none⟩ = some (.slice p1 mn c1') := b3.out.cell _
    have q0 : V2.cell? ⟨G + 1, 0, none⟩ = some (.int .i64 0) := b4.out.cell _
    have f0 : V2.frozen? ⟨G + 1, 0, none⟩ = false := b4.out.frozen _
    have q1 : V2.cell? ⟨G + 1, 1, none⟩ = some (.int .i64 0) := b4.out.cell _
    have f1 : V2.frozen? ⟨G + 1, 1, none⟩ = false := b4.out.frozen _
    have q2 : V2.cell? ⟨G + 1, 2, none⟩ = some (.bool false) := b4.out.cell _
    have f2 : V2.frozen? ⟨G + 1, 2, none⟩ = false := b4.out.frozen _
    have q3 : V2.cell? ⟨G + 1, 3, none⟩ = some (.int .i64 0) := b4.out.cell _
    have f3 : V2.frozen? ⟨G + 1, 3, none⟩ = false := b4.out.frozen _
    have q4 : V2.cell? ⟨G + 1, 4, none⟩ = some (.slice none 0 0) := b4.out.cell _
    have f4 : V2.frozen? ⟨G + 1, 4, none⟩ = false := b4.out.frozen _
    go_wp2
    have hf : Fr (fun k => k = G + 1) V2 (((((V2.setCell ⟨G + 1, 0, none⟩ (.int .i64 tk)).setCell ⟨G + 1, 1, none⟩ (.int .i64 nd)).setCell ⟨G + 1, 2, none⟩ (.bool ou)).setCell ⟨G + 1, 3, none⟩ (.int .i64 lg)).setCell ⟨G + 1, 4, none⟩ (.slice p1 mn c1')) := (((fr_set.trans fr_set).trans fr_set).trans fr_set).trans fr_set
    refine bodyPost_ret (v := .agg #[.int .i64 tk, .int .i64 nd, .bool ou, .int .i64 lg, .slice p1 mn c1']) (by exact results_cell_row (fn := Tryz.f58) rfl _ _ (G + 1) 48 _ (0, 0) _ rfl (((((b4.out.set_ 0 (.int .i64 tk)).set_ 1 (.int .i64 nd)).set_ 2 (.bool ou)).set_ 3 (.int .i64 lg)).set_ 4 (.slice p1 mn c1')) Tryz.underlying48 rfl rec_size) rfl ⟨_, rfl, ?_, ?_⟩
    · rw [HMN.out]
      exact own_base (hf.own HD2.out (fun k hk e => by have := own_ge HD2.out k hk; have := sW.out; omega)) (by have := sW.out; omega)
    · exact HB2.out.trans (hf.below (fun k hk e => by omega) HB2.out.size)
end Go.Proofs.YtpciggnanlflkaaGreatDoor.Ad
