/- Contract of tape.record. Conditions: a text is shorter than 2^32 - 15; the library's own variables hold what its text lays. -/
import Derived.Test.YtpciggnanlflkaaGreatDoorXe
import Derived.Test.YtpciggnanlflkaaGreatDoorAp
namespace Go.Proofs.YtpciggnanlflkaaGreatDoor.Ad
set_option linter.unusedVariables false
set_option linter.unusedSimpArgs false
open Go.RowKit Go.Maps W
theorem split_calls (l : List UInt8) (c : UInt8) (hs : l.length < 4294967281) (w : World) (hg : Gl w) : Calls Tryz.prog 70 #[.string (S l), .string ⟨#[c]⟩] w fun e w' =>
    e = .returned (.slice (some ⟨w.heap.size, 0, none⟩) (cuts c l).length (cuts c l).length) ∧ w' = w.alloc (.cells (((cuts c l).map S).map Value.string).toArray 9) := by
  obtain ⟨m, hm⟩ := hg.max
  have h := Tryz.strings_Split (S l) ⟨#[c]⟩ m w (by rw [S_size]; exact hs) hm (Nat.le_refl 1)
  have e1 : cutsB c (S l) = (cuts c l).map S := by unfold cutsB; rw [S_list]; rfl
  rw [splitB_cutsB, countB_cutsB, e1, List.length_map] at h
  exact h
def inB : List UInt8 := [105, 110]
def outB : List UInt8 := [111, 117, 116]
def isIn (c : List UInt8) : Bool := decide (c = inB)
def isOut (c : List UInt8) : Bool := decide (c = outB)
theorem S_in (l : List UInt8) : ((S l).toList == [105, 110]) = isIn l := by
  rw [ByteArray.toList_eq, S_list]; unfold isIn
  by_cases h : l = inB
  · rw [decide_eq_true h, h]; rfl
  · rw [decide_eq_false h]; exact beq_eq_false_iff_ne.2 h
theorem S_out (l : List UInt8) : ((S l).toList == [111, 117, 116]) = isOut l := by
  rw [ByteArray.toList_eq, S_list]; unfold isOut
  by_cases h : l = outB
  · rw [decide_eq_true h, h]; rfl
  · rw [decide_eq_false h]; exact beq_eq_false_iff_ne.2 h
/-- What record reads: the record and whether it is one. -/
def recordV (l : List UInt8) : Rec × Bool := match cuts 32 l with
  | [a, b, c, d, e] => if isIn c = false ∧ isOut c = false then (⟨0, 0, false, 0, []⟩, false) else
    (⟨decA (decV a), decA (decV b), isOut c, decA (decV d), (hexV e).getD []⟩, (decV a).isSome && ((decV b).isSome && ((decV d).isSome && (hexV e).isSome)))
  | _ => (⟨0, 0, false, 0, []⟩, false)
theorem five {α : Type} : ∀ l : List α, l.length = 5 → ∃ a b c d e, l = [a, b, c, d, e]
  | [a, b, c, d, e], _ => ⟨a, b, c, d, e, rfl⟩
theorem recordV_no (l : List UInt8) (h : (cuts 32 l).length ≠ 5) : recordV l = (⟨0, 0, false, 0, []⟩, false) := by
  unfold recordV
  split
  · next h1 => rw [h1] at h; exact absurd rfl h
  · rfl
theorem rec_fin {w wr : World} {b : Nat} {v : Value} {x0 x1 x2 x3 x4 : Value} (r : Rec) (hb : Blk wr b 48 #[x0, x1, x2, x3, x4]) (hv : wr.ownsRow (b + 1) 5 1 v r.data.length (Lib.byteCells r.data)) (hw : Below w.heap.size w wr) (hl : b = w.heap.size) :
    Blk (((((wr.setCell ⟨b, 0, none⟩ (.int .i64 r.tk)).setCell ⟨b, 1, none⟩ (.int .i64 r.node)).setCell ⟨b, 2, none⟩ (.bool r.out)).setCell ⟨b, 3, none⟩ (.int .i64 r.long)).setCell ⟨b, 4, none⟩ v) b 48 (recC r v).toArray ∧
    (((((wr.setCell ⟨b, 0, none⟩ (.int .i64 r.tk)).setCell ⟨b, 1, none⟩ (.int .i64 r.node)).setCell ⟨b, 2, none⟩ (.bool r.out)).setCell ⟨b, 3, none⟩ (.int .i64 r.long)).setCell ⟨b, 4, none⟩ v).ownsRow w.heap.size 5 1 v r.data.length (Lib.byteCells r.data) ∧
    Below w.heap.size w (((((wr.setCell ⟨b, 0, none⟩ (.int .i64 r.tk)).setCell ⟨b, 1, none⟩ (.int .i64 r.node)).setCell ⟨b, 2, none⟩ (.bool r.out)).setCell ⟨b, 3, none⟩ (.int .i64 r.long)).setCell ⟨b, 4, none⟩ v) := by
  have hf : Fr (fun k => k = b) wr (((((wr.setCell ⟨b, 0, none⟩ (.int .i64 r.tk)).setCell ⟨b, 1, none⟩ (.int .i64 r.node)).setCell ⟨b, 2, none⟩ (.bool r.out)).setCell ⟨b, 3, none⟩ (.int .i64 r.long)).setCell ⟨b, 4, none⟩ v) := (((fr_set.trans fr_set).trans fr_set).trans fr_set).trans fr_set
  refine ⟨((((hb.set_ 0 _).set_ 1 _).set_ 2 _).set_ 3 _).set_ 4 _, own_base (hf.own hv (fun k hk e => by have := own_ge hv k hk; omega)) (by omega), hw.trans (hf.below (fun k hk e => by omega) hw.size)⟩
set_option maxRecDepth 100000 in
set_option maxHeartbeats 8000000 in
theorem record_calls (l : List UInt8) (hl : l.length < 4294967281) (w : World) (hg : Gl w) : Calls Tryz.prog 53 #[.string (S l)] w fun e w' =>
    ∃ d, e = .returned (.tuple #[.agg (recC (recordV l).1 d).toArray, .bool (recordV l).2]) ∧ w'.ownsRow w.heap.size 5 1 d (recordV l).1.data.length (Lib.byteCells (recordV l).1.data) ∧ Below w.heap.size w w' := by
  have HG := Lib.hid hg
  have HL := Lib.hid hl
  obtain ⟨q, hq⟩ : ∃ q, S l = q := ⟨_, rfl⟩
  have HSP := Lib.hid (fun W h => split_calls l 32 hl W h)
  rw [hq] at HSP ⊢
  obtain ⟨n, hn⟩ : ∃ n, (cuts 32 l).length = n := ⟨_, rfl⟩
  obtain ⟨b0, hb0⟩ : ∃ b, w.heap.size = b := ⟨_, rfl⟩
  have HB0 := Lib.hid hb0
  have HRN := Lib.hid (recordV_no l)
  have HN := Lib.hid hn
  rw [hn] at HSP
  clear hg hl hq hn hb0
  go_enter Tryz.func53, Tryz.ntmps53
  go_upto_region 1 with fail
  refine wp_named fun W hW => ?_
  obtain ⟨bk, BW, sW⟩ := box1 hW
  rw [HB0.out] at bk sW ⊢
  clear hW
  have HGW := Lib.hid (HG.out.later BW.out)
  go_upto_region 2 with (go_at_call 70; refine (HSP.out W HGW.out).mono ?_; rintro e W1 ⟨rfl, hw⟩; have hw1 := Lib.hid hw; clear hw)
  have hb1 : Hid (Below W.heap.size W W1) := Lib.hid (by rw [hw1.out]; exact (Below.refl _ _).alloc (Nat.le_refl _) _)
  have bs := Lib.hid (show Blk W1 W.heap.size 9 _ by rw [hw1.out]; exact Blk.new _ _ _)
  have bk := Lib.hid (bk.out.later hb1.out bk.out.lt)
  have BW := keep BW hb1.out
  have sW1 : Hid (W1.heap.size = b0 + 2) := Lib.hid (by rw [hw1.out]; have := sW.out; simp; omega)
  rw [sW.out] at bs ⊢
  clear hw1 hb1
  have q0 : W1.cell? ⟨b0, 0, none⟩ = some (.int .i64 0) := bk.out.cell _
  have q1 : W1.cell? ⟨b0, 1, none⟩ = some (.int .i64 0) := bk.out.cell _
  have q2 : W1.cell? ⟨b0, 2, none⟩ = some (.bool false) := bk.out.cell _
  have q3 : W1.cell? ⟨b0, 3, none⟩ = some (.int .i64 0) := bk.out.cell _
  have q4 : W1.cell? ⟨b0, 4, none⟩ = some (.slice none 0 0) := bk.out.cell _
  have g0 : W1.frozen? ⟨b0, 0, none⟩ = false := bk.out.frozen _
  have g1 : W1.frozen? ⟨b0, 1, none⟩ = false := bk.out.frozen _
  have g2 : W1.frozen? ⟨b0, 2, none⟩ = false := bk.out.frozen _
  have g3 : W1.frozen? ⟨b0, 3, none⟩ = false := bk.out.frozen _
  have g4 : W1.frozen? ⟨b0, 4, none⟩ = false := bk.out.frozen _
  have HNO : Hid (recordV l = (⟨0, 0, false, 0, []⟩, false) → ∀ w', w' = (((((W1.setCell ⟨b0, 0, none⟩ (.int .i64 0)).setCell ⟨b0, 1, none⟩ (.int .i64 0)).setCell ⟨b0, 2, none⟩ (.bool false)).setCell ⟨b0, 3, none⟩ (.int .i64 0)).setCell ⟨b0, 4, none⟩ (.slice none 0 0)) →
      Blk w' b0 48 #[.int .i64 0, .int .i64 0, .bool false, .int .i64 0, .slice none 0 0] ∧ ∃ d, Ending.returned (.tuple #[.agg #[.int .i64 0, .int .i64 0, .bool false, .int .i64 0, .slice none 0 0], .bool false]) = .returned (.tuple #[.agg (recC (recordV l).1 d).toArray, .bool (recordV l).2]) ∧ w'.ownsRow w.heap.size 5 1 d (recordV l).1.data.length (Lib.byteCells (recordV l).1.data) ∧ Below w.heap.size w w') := Lib.hid (fun h w' hw' => by
    rw [h, hw']
    obtain ⟨z1, z2, z3⟩ := rec_fin ⟨0, 0, false, 0, []⟩ bk.out (World.ownsRow_nil _ _ _ _) BW.out HB0.out.symm
    exact ⟨z1, .slice none 0 0, rfl, z2, z3⟩)
  by_cases h5 : n = 5
  case neg =>
    have e1 : ((n : Int) != 5) = true := bne_iff_ne.2 (by omega)
    have e1' : (n != 5) = true := bne_iff_ne.2 h5
    have HNO := Lib.hid (HNO.out (HRN.out (by rw [HN.out]; exact h5)))
    clear HRN h5
    go_wp2
    obtain ⟨z1, z2⟩ := HNO.out _ rfl
    exact bodyPost_ret (v := .tuple #[.agg #[.int .i64 0, .int .i64 0, .bool false, .int .i64 0, .slice none 0 0], .bool false]) (by exact results_cell2 (fn := Tryz.f53) rfl _ _ b0 48 _ _ rfl z1 Tryz.underlying48 rfl rec_size) rfl z2
  case pos =>
    subst h5
    obtain ⟨a, b, c, d, e, hc⟩ := five _ HN.out
    have hm : ∀ p ∈ cuts 32 l, p.length ≤ 4294967280 := fun p hp => by have := cuts_short 32 l p hp; have := HL.out; omega
    rw [hc] at bs hm
    have HREC : Hid (recordV l = if isIn c = false ∧ isOut c = false then (⟨0, 0, false, 0, []⟩, false) else (⟨decA (decV a), decA (decV b), isOut c, decA (decV d), (hexV e).getD []⟩, (decV a).isSome && ((decV b).isSome && ((decV d).isSome && (hexV e).isSome)))) := Lib.hid (by unfold recordV; rw [hc])
    clear hc HRN HN
    have hxa := hm a (by simp)
    have hxb := hm b (by simp)
    have hxd := hm d (by simp)
    have hxe := hm e (by simp)
    have HDA := Lib.hid (fun W => decimal_calls (S a) (by rw [S_size]; omega) W)
    have HDB := Lib.hid (fun W => decimal_calls (S b) (by rw [S_size]; omega) W)
    have HDD := Lib.hid (fun W => decimal_calls (S d) (by rw [S_size]; omega) W)
    have HHE := Lib.hid (fun W => hex_calls e (by omega) W)
    have sin := S_in c
    have sout := S_out c
    rw [S_list] at HDA HDB HDD
    clear hm hxa hxb hxd hxe
    obtain ⟨qa, hqa⟩ : ∃ q, S a = q := ⟨_, rfl⟩
    obtain ⟨qb, hqb⟩ : ∃ q, S b = q := ⟨_, rfl⟩
    obtain ⟨qc, hqc⟩ : ∃ q, S c = q := ⟨_, rfl⟩
    obtain ⟨qd, hqd⟩ : ∃ q, S d = q := ⟨_, rfl⟩
    obtain ⟨qe, hqe⟩ : ∃ q, S e = q := ⟨_, rfl⟩
    simp only [List.map_cons, List.map_nil] at bs
    rw [hqa, hqb, hqc, hqd, hqe] at bs
    rw [hqa] at HDA
    rw [hqb] at HDB
    rw [hqc] at sin sout
    rw [hqd] at HDD
    rw [hqe] at HHE
    clear hqa hqb hqc hqd hqe
    have s0 : W1.cell? ⟨b0 + 1, 0, none⟩ = some (.string qa) := bs.out.cell _
    have s1 : W1.cell? ⟨b0 + 1, 1, none⟩ = some (.string qb) := bs.out.cell _
    have s2 : W1.cell? ⟨b0 + 1, 2, none⟩ = some (.string qc) := bs.out.cell _
    have s3 : W1.cell? ⟨b0 + 1, 3, none⟩ = some (.string qd) := bs.out.cell _
    have s4 : W1.cell? ⟨b0 + 1, 4, none⟩ = some (.string qe) := bs.out.cell _
    obtain ⟨bi, hbi⟩ : ∃ b, isIn c = b := ⟨_, rfl⟩
    obtain ⟨bo, hbo⟩ : ∃ b, isOut c = b := ⟨_, rfl⟩
    rw [hbi] at sin HREC
    rw [hbo] at sout HREC
    clear hbi hbo
    have snin : (qc.toList != [105, 110]) = !bi := by rw [← sin]; rfl
    have snout : (qc.toList != [111, 117, 116]) = !bo := by rw [← sout]; rfl
    by_cases hway : bi = false ∧ bo = false
    · obtain ⟨rfl, rfl⟩ := hway
      have HNO := Lib.hid (HNO.out (by rw [HREC.out, if_pos ⟨rfl, rfl⟩]))
      clear HREC
      go_wp2
      obtain ⟨z1, z2⟩ := HNO.out _ rfl
      exact bodyPost_ret (v := .tuple #[.agg #[.int .i64 0, .int .i64 0, .bool false, .int .i64 0, .slice none 0 0], .bool false]) (by exact results_cell2 (fn := Tryz.f53) rfl _ _ b0 48 _ _ rfl z1 Tryz.underlying48 rfl rec_size) rfl z2
    · have HRV := Lib.hid (HREC.out.trans (if_neg hway))
      clear HREC HNO q0 q1 q2 q3 q4 g0 g1 g2 g3 g4
      have hw2 : (bi = true) ∨ (bi = false ∧ bo = true) := by cases bi <;> cases bo <;> simp_all
      clear hway
      obtain ⟨ka, hka⟩ : ∃ k, decA (decV a) = k := ⟨_, rfl⟩
      obtain ⟨kb, hkb⟩ : ∃ k, decA (decV b) = k := ⟨_, rfl⟩
      obtain ⟨kd, hkd⟩ : ∃ k, decA (decV d) = k := ⟨_, rfl⟩
      obtain ⟨ba, hba⟩ : ∃ k, (decV a).isSome = k := ⟨_, rfl⟩
      obtain ⟨bb, hbb⟩ : ∃ k, (decV b).isSome = k := ⟨_, rfl⟩
      obtain ⟨bd, hbd⟩ : ∃ k, (decV d).isSome = k := ⟨_, rfl⟩
      obtain ⟨be, hbe⟩ : ∃ k, (hexV e).isSome = k := ⟨_, rfl⟩
      obtain ⟨hx, hhx⟩ : ∃ k, (hexV e).getD [] = k := ⟨_, rfl⟩
      rw [hka, hba] at HDA
      rw [hkb, hbb] at HDB
      rw [hkd, hbd] at HDD
      rw [hbe, hhx] at HHE
      rw [hka, hkb, hkd, hba, hbb, hbd, hbe, hhx] at HRV
      clear hka hkb hkd hba hbb hbd hbe hhx
      rcases hw2 with rfl | ⟨rfl, rfl⟩
      case' inl => go_upto_region 4 with fail
      case' inr =>
        go_upto_region 4 with fail
        obtain ⟨bo, hbo⟩ : ∃ b : Bool, b = true := ⟨_, rfl⟩
        rw [← hbo] at sout HRV
        clear hbo
      all_goals
        go_upto_region 5 with (go_at_call 52; refine (HDA.out _).mono ?_; rintro e V1 ⟨rfl, hB⟩; have hBB := Lib.hid hB; clear hB)
        have bs := Lib.hid (bs.out.later hBB.out bs.out.lt)
        have bk := Lib.hid (bk.out.later hBB.out bk.out.lt)
        have BW := keep BW hBB.out
        have sW1 : Hid (b0 + 2 ≤ V1.heap.size) := Lib.hid (by have := sW1.out; have := hBB.out.size; omega)
        have s0 : V1.cell? ⟨b0 + 1, 0, none⟩ = some (.string qa) := bs.out.cell _
        have s1 : V1.cell? ⟨b0 + 1, 1, none⟩ = some (.string qb) := bs.out.cell _
        have s2 : V1.cell? ⟨b0 + 1, 2, none⟩ = some (.string qc) := bs.out.cell _
        have s3 : V1.cell? ⟨b0 + 1, 3, none⟩ = some (.string qd) := bs.out.cell _
        have s4 : V1.cell? ⟨b0 + 1, 4, none⟩ = some (.string qe) := bs.out.cell _
        clear hBB HDA
        go_upto_region 6 with (go_at_call 52; refine (HDB.out _).mono ?_; rintro e V2 ⟨rfl, hB⟩; have hBB := Lib.hid hB; clear hB)
        have bs := Lib.hid (bs.out.later hBB.out bs.out.lt)
        have bk := Lib.hid (bk.out.later hBB.out bk.out.lt)
        have BW := keep BW hBB.out
        have sW1 : Hid (b0 + 2 ≤ V2.heap.size) := Lib.hid (by have := sW1.out; have := hBB.out.size; omega)
        have s0 : V2.cell? ⟨b0 + 1, 0, none⟩ = some (.string qa) := bs.out.cell _
        have s1 : V2.cell? ⟨b0 + 1, 1, none⟩ = some (.string qb) := bs.out.cell _
        have s2 : V2.cell? ⟨b0 + 1, 2, none⟩ = some (.string qc) := bs.out.cell _
        have s3 : V2.cell? ⟨b0 + 1, 3, none⟩ = some (.string qd) := bs.out.cell _
        have s4 : V2.cell? ⟨b0 + 1, 4, none⟩ = some (.string qe) := bs.out.cell _
        clear hBB HDB
        go_upto_region 7 with (go_at_call 52; refine (HDD.out _).mono ?_; rintro e V3 ⟨rfl, hB⟩; have hBB := Lib.hid hB; clear hB)
        have bs := Lib.hid (bs.out.later hBB.out bs.out.lt)
        have bk := Lib.hid (bk.out.later hBB.out bk.out.lt)
        have BW := keep BW hBB.out
        have sW1 : Hid (b0 + 2 ≤ V3.heap.size) := Lib.hid (by have := sW1.out; have := hBB.out.size; omega)
        have s0 : V3.cell? ⟨b0 + 1, 0, none⟩ = some (.string qa) := bs.out.cell _
        have s1 : V3.cell? ⟨b0 + 1, 1, none⟩ = some (.string qb) := bs.out.cell _
        have s2 : V3.cell? ⟨b0 + 1, 2, none⟩ = some (.string qc) := bs.out.cell _
        have s3 : V3.cell? ⟨b0 + 1, 3, none⟩ = some (.string qd) := bs.out.cell _
        have s4 : V3.cell? ⟨b0 + 1, 4, none⟩ = some (.string qe) := bs.out.cell _
        clear hBB HDD
        have sV3 := sW1
        go_upto_region 8 with (go_at_call 71; refine (HHE.out _).mono ?_; rintro e V4 ⟨dv, rfl, hO, hB⟩; have hBB := Lib.hid hB; clear hB; have HO := Lib.hid hO; clear hO)
        have bs := Lib.hid (bs.out.later hBB.out bs.out.lt)
        have bk := Lib.hid (bk.out.later hBB.out bk.out.lt)
        have BW := keep BW hBB.out
        have sW1 : Hid (b0 + 2 ≤ V4.heap.size) := Lib.hid (by have := sW1.out; have := hBB.out.size; omega)
        have s0 : V4.cell? ⟨b0 + 1, 0, none⟩ = some (.string qa) := bs.out.cell _
        have s1 : V4.cell? ⟨b0 + 1, 1, none⟩ = some (.string qb) := bs.out.cell _
        have s2 : V4.cell? ⟨b0 + 1, 2, none⟩ = some (.string qc) := bs.out.cell _
        have s3 : V4.cell? ⟨b0 + 1, 3, none⟩ = some (.string qd) := bs.out.cell _
        have s4 : V4.cell? ⟨b0 + 1, 4, none⟩ = some (.string qe) := bs.out.cell _
        clear hBB HHE
        obtain ⟨pd, cd, rfl, _, _, _⟩ := own_bytes HO.out
        have HO := Lib.hid (own_base HO.out (show b0 + 1 ≤ _ by have := sV3.out; omega))
        have q0 : V4.cell? ⟨b0, 0, none⟩ = some (.int .i64 0) := bk.out.cell _
        have g0 : V4.frozen? ⟨b0, 0, none⟩ = false := bk.out.frozen _
        have q1 : V4.cell? ⟨b0, 1, none⟩ = some (.int .i64 0) := bk.out.cell _
        have g1 : V4.frozen? ⟨b0, 1, none⟩ = false := bk.out.frozen _
        have q2 : V4.cell? ⟨b0, 2, none⟩ = some (.bool false) := bk.out.cell _
        have g2 : V4.frozen? ⟨b0, 2, none⟩ = false := bk.out.frozen _
        have q3 : V4.cell? ⟨b0, 3, none⟩ = some (.int .i64 0) := bk.out.cell _
        have g3 : V4.frozen? ⟨b0, 3, none⟩ = false := bk.out.frozen _
        have q4 : V4.cell? ⟨b0, 4, none⟩ = some (.slice none 0 0) := bk.out.cell _
        have g4 : V4.frozen? ⟨b0, 4, none⟩ = false := bk.out.frozen _
        have HN4 := Lib.hid bk.out.lt
        obtain ⟨m, hm⟩ : ∃ m, hx.length = m := ⟨_, rfl⟩
        have HM := Lib.hid hm
        have z : Hid (Blk (((((V4.setCell ⟨b0, 0, none⟩ (.int .i64 ka)).setCell ⟨b0, 1, none⟩ (.int .i64 kb)).setCell ⟨b0, 2, none⟩ (.bool bo)).setCell ⟨b0, 3, none⟩ (.int .i64 kd)).setCell ⟨b0, 4, none⟩ (.slice pd hx.length cd)) b0 48 #[.int .i64 ka, .int .i64 kb, .bool bo, .int .i64 kd, .slice pd hx.length cd] ∧ World.ownsRow (((((V4.setCell ⟨b0, 0, none⟩ (.int .i64 ka)).setCell ⟨b0, 1, none⟩ (.int .i64 kb)).setCell ⟨b0, 2, none⟩ (.bool bo)).setCell ⟨b0, 3, none⟩ (.int .i64 kd)).setCell ⟨b0, 4, none⟩ (.slice pd hx.length cd)) w.heap.size 5 1 (.slice pd hx.length cd) hx.length (Lib.byteCells hx) ∧ Below w.heap.size w (((((V4.setCell ⟨b0, 0, none⟩ (.int .i64 ka)).setCell ⟨b0, 1, none⟩ (.int .i64 kb)).setCell ⟨b0, 2, none⟩ (.bool bo)).setCell ⟨b0, 3, none⟩ (.int .i64 kd)).setCell ⟨b0, 4, none⟩ (.slice pd hx.length cd))) := Lib.hid (rec_fin ⟨ka, kb, bo, kd, hx⟩ bk.out HO.out BW.out HB0.out.symm)
        rw [hm] at z ⊢
        clear hm bk HO BW bs s0 s1 s3 s4
        have hc5 : ba = false ∨ ba = true ∧ (bb = false ∨ bb = true ∧ (bd = false ∨ bd = true)) := by cases ba <;> cases bb <;> cases bd <;> simp
        rcases hc5 with rfl | ⟨rfl, rfl | ⟨rfl, rfl | rfl⟩⟩
        · go_wp2
          obtain ⟨z1, z2, z3⟩ := z.out
          refine bodyPost_ret (v := .tuple #[.agg #[.int .i64 ka, .int .i64 kb, .bool bo, .int .i64 kd, .slice pd m cd], .bool false]) (by exact results_cell2 (fn := Tryz.f53) rfl _ _ b0 48 #[.int .i64 ka, .int .i64 kb, .bool bo, .int .i64 kd, .slice pd m cd] _ rfl z1 Tryz.underlying48 rfl rec_size) rfl ⟨.slice pd m cd, by rw [HRV.out]; rfl, ?_, z3⟩
          rw [HRV.out]; show World.ownsRow _ _ _ _ _ hx.length _; rw [HM.out]; exact z2
        · go_wp2
          obtain ⟨z1, z2, z3⟩ := z.out
          refine bodyPost_ret (v := .tuple #[.agg #[.int .i64 ka, .int .i64 kb, .bool bo, .int .i64 kd, .slice pd m cd], .bool false]) (by exact results_cell2 (fn := Tryz.f53) rfl _ _ b0 48 #[.int .i64 ka, .int .i64 kb, .bool bo, .int .i64 kd, .slice pd m cd] _ rfl z1 Tryz.underlying48 rfl rec_size) rfl ⟨.slice pd m cd, by rw [HRV.out]; rfl, ?_, z3⟩
          rw [HRV.out]; show World.ownsRow _ _ _ _ _ hx.length _; rw [HM.out]; exact z2
        · go_wp2
          obtain ⟨z1, z2, z3⟩ := z.out
          refine bodyPost_ret (v := .tuple #[.agg #[.int .i64 ka, .int .i64 kb, .bool bo, .int .i64 kd, .slice pd m cd], .bool false]) (by exact results_cell2 (fn := Tryz.f53) rfl _ _ b0 48 #[.int .i64 ka, .int .i64 kb, .bool bo, .int .i64 kd, .slice pd m cd] _ rfl z1 Tryz.underlying48 rfl rec_size) rfl ⟨.slice pd m cd, by rw [HRV.out]; rfl, ?_, z3⟩
          rw [HRV.out]; show World.ownsRow _ _ _ _ _ hx.length _; rw [HM.out]; exact z2
        · go_wp2
          obtain ⟨z1, z2, z3⟩ := z.out
          refine bodyPost_ret (v := .tuple #[.agg #[.int .i64 ka, .int .i64 kb, .bool bo, .int .i64 kd, .slice pd m cd], .bool be]) (by exact results_cell2 (fn := Tryz.f53) rfl _ _ b0 48 #[.int .i64 ka, .int .i64 kb, .bool bo, .int .i64 kd, .slice pd m cd] _ rfl z1 Tryz.underlying48 rfl rec_size) rfl ⟨.slice pd m cd, by rw [HRV.out]; rfl, ?_, z3⟩
          rw [HRV.out]; show World.ownsRow _ _ _ _ _ hx.length _; rw [HM.out]; exact z2
end Go.Proofs.YtpciggnanlflkaaGreatDoor.Ad
