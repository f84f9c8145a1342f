/- Contract of the reference's parse4. Conditions: a text is shorter than 2^32. -/
import Derived.Test.YtpaplobjmmpliaaDoorAu
namespace Go.Proofs.YtpaplobjmmpliaaDoor.Ad
set_option linter.unusedVariables false
set_option linter.unusedSimpArgs false
open Go.RowKit W
def ansA (r : Option Addr) : Addr := r.getD zeroAd
def ansE (r : Option Addr) : Int := if r.isSome then 0 else 30
theorem all_ok {ps : List (List UInt8)} (h : ∀ j, j < ps.length → decOk (ps.getD j []) = true) : ps.all decOk = true := by
  rw [List.all_eq_true]; intro p hp
  obtain ⟨j, hj, rfl⟩ := List.mem_iff_getElem.1 hp
  have := h j hj
  rwa [List.getD_eq_getElem?_getD, List.getElem?_eq_getElem hj] at this
theorem not_all {ps : List (List UInt8)} {j : Nat} (hj : j < ps.length) (h : decOk (ps.getD j []) = false) : ¬ ps.all decOk = true := by
  intro h'
  rw [List.all_eq_true] at h'
  have := h' (ps.getD j []) (by rw [List.getD_eq_getElem?_getD, List.getElem?_eq_getElem hj]; exact List.getElem_mem _)
  rw [h] at this; cases this
theorem decOk_neg {p : List UInt8} (h : numV p 10 3 < 0) : decOk p = false := by
  unfold decOk; rw [decide_eq_false (by omega)]; rfl
theorem decOk_big {p : List UInt8} (h : 255 < numV p 10 3) : decOk p = false := by
  unfold decOk; rw [decide_eq_false (p := numV p 10 3 ≤ 255) (by omega)]; simp
theorem decOk_zero {p : List UInt8} (h : 1 < p.length) (h0 : p.getD 0 0 = 48) : decOk p = false := by
  unfold decOk; rw [decide_eq_true h, h0]; simp
theorem decOk_yes {p : List UInt8} (h1 : 0 ≤ numV p 10 3) (h2 : numV p 10 3 ≤ 255) (h3 : ¬ (1 < p.length ∧ p.getD 0 0 = 48)) : decOk p = true := by
  unfold decOk; rw [decide_eq_true h1, decide_eq_true h2]
  by_cases h : 1 < p.length
  · rw [decide_eq_true h, beq_eq_false_iff_ne.2 (fun h' => h3 ⟨h, h'⟩)]; rfl
  · rw [decide_eq_false h]; rfl
theorem num_pos {p : List UInt8} (h : 0 ≤ numV p 10 3) : 0 < p.length := by
  rcases Nat.eq_zero_or_pos p.length with h0 | h0
  · unfold numV at h; rw [if_pos h0] at h; omega
  · exact h0
set_option maxRecDepth 100000 in
set_option maxHeartbeats 4000000 in
theorem parse4_calls (s : ByteArray) (hs : s.size ≤ 4294967296) (w : World) : Calls Tryd.prog 71 #[.string s] w fun e w' => e = .returned (.tuple #[.agg (ansA (read4 s.data.toList)).cells, .int .i64 (ansE (read4 s.data.toList))]) ∧ Below w.heap.size w w' := by
  have z0 := zero_ok
  have z4 : Addr.ok ⟨4, zeros⟩ := rfl
  have hZ : Hid (Addr.cells ⟨4, partF (decB (cuts 46 s.data.toList)) 0⟩ = Addr.cells ⟨4, zeros⟩) := Lib.hid (by rw [partF_zero])
  go_enter Tryd.func71, Tryd.ntmps71
  go_upto_region 1 with fail
  refine wp_named fun W hW => ?_
  obtain ⟨bk, BW, sW⟩ := box1 (cs := zeroAd.cells) hW
  clear hW
  go_upto_region 2 with (go_at_call 96; refine (pieces_calls s 46 hs _).mono ?_; rintro e W1 ⟨v, rfl, hr1, hb1⟩)
  have hne : cutsB 46 s ≠ [] := fun h => cuts_ne 46 s.data.toList (by have := congrArg List.length h; rw [cutsB_len] at this; exact List.eq_nil_of_length_eq_zero this)
  rcases hr1.cells with ⟨_, h⟩ | ⟨g, c, rfl, hg, hgl, hcap, hcells⟩
  · exact absurd h hne
  have HC := Lib.hid hcells
  have HB1 : Hid (Below w.heap.size w W1) := Lib.hid (BW.out.trans (hb1.mono (by rw [sW.out]; omega)))
  have HGL := Lib.hid hgl
  have HS1 : Hid (w.heap.size ≤ W1.heap.size) := Lib.hid HB1.out.size
  have HS1' : Hid (w.heap.size + 1 ≤ W1.heap.size) := Lib.hid (by have := hb1.size; rw [sW.out] at this; exact this)
  have bz1 := Lib.hid (bk.out.later hb1 (by rw [sW.out]; omega))
  have hlen : (cutsB 46 s).length ≤ 4294967297 := by
    rw [cutsB_len]; have := cuts_le 46 s.data.toList; have h2 : s.data.toList.length = s.size := by simp
    omega
  obtain ⟨N, hN⟩ : ∃ N, (cutsB 46 s).length = N := ⟨_, rfl⟩
  rw [hN] at hlen hcap
  have HN := Lib.hid hN
  clear hr1 hb1 hne hg hgl hcells bk BW
  rw [hN]
  clear hN
  go_upto_region 3 with (refine wpList_store_blk rfl 35 _ _ rfl W1.heap.size 35 zeroAd.cells (Addr.cells ⟨4, zeros⟩) rfl rfl (Blk.new _ _ _) (by first | rfl | rw [csize z4, csize zero_ok]) (szc z4) (one_cells _) ?_; intro W2 P2)
  have b2 : Hid (Blk W2 W1.heap.size 35 (Addr.cells ⟨4, partF (decB (cuts 46 s.data.toList)) 0⟩)) := Lib.hid (by rw [hZ.out]; exact P2.blk)
  have hsz := P2.size
  have sW2 : Hid (W1.heap.size + 1 ≤ W2.heap.size) := Lib.hid (by simpa using hsz)
  have BW2 : Hid (Below W1.heap.size W1 W2) := Lib.hid (P2.below ((Below.refl _ _).alloc (Nat.le_refl _) _) (Nat.le_refl _) (by simp))
  clear P2 hsz hZ
  by_cases h4 : N = 4
  · have e4 : ((N : Int) != 4) = false := bne_eq_false_iff_eq.2 (by omega)
    have HR : Hid (read4 s.data.toList = if (cuts 46 s.data.toList).all decOk = true then some ⟨4, partF (decB (cuts 46 s.data.toList)) 4⟩ else none) := Lib.hid (by unfold read4; rw [if_pos (by rw [← cutsB_len, HN.out]; exact h4)])
    go_wp2
    go_loopw [6] (fun i wr => ∃ k : Nat, k ≤ 4 ∧ i = .int .i64 k ∧ (∀ j, j < k → decOk ((cuts 46 s.data.toList).getD j []) = true) ∧ Blk wr W1.heap.size 35 (Addr.cells ⟨4, partF (decB (cuts 46 s.data.toList)) k⟩) ∧ Below W1.heap.size W1 wr ∧ W1.heap.size + 1 ≤ wr.heap.size) (fun i _ => 4 - (intOf i).toNat)
    case atStart => exact ⟨0, by omega, rfl, fun j hj => by omega, b2.out, BW2.out, sW2.out⟩
    case round =>
      obtain ⟨k, hk, rfl, r0, r1, r2, r3⟩ := hrel
      have R0 := Lib.hid r0
      have R1 := Lib.hid r1
      have RB := Lib.hid r2
      have HS := Lib.hid r2.size
      have RS := Lib.hid r3
      have BZ := Lib.hid (bz1.out.later RB.out (by have := HS1'.out; omega))
      clear r0 r1 r2 r3 b2 sW2 BW2
      by_cases hlt : k < 4
      · obtain ⟨p, hp, hpl, hps'⟩ := cutsB_getD 46 s k (by rw [HN.out]; omega)
        have hkp : k < (cuts 46 s.data.toList).length := by rw [← cutsB_len, HN.out]; omega
        have hck : wr.cell? ⟨g, k, none⟩ = some (.string p) := (RB.out.cell (by exact HGL.out)).trans (HC.out k p hp)
        have hps : p.size ≤ 140737488351232 := by omega
        have hsz : p.data.toList.length = p.size := by simp
        obtain ⟨q, hq⟩ : ∃ q, numV p.data.toList 10 3 = q := ⟨_, rfl⟩
        have HQ := Lib.hid hq
        have hqi := num10_in p.data.toList
        rw [hq] at hqi
        have hq9 : q ≤ 999 := by omega
        have hq1 : -1 ≤ q := by omega
        clear hp hps' hqi
        by_cases hneg : q < 0
        · have e1 : decide (q < 0) = true := decide_eq_true hneg
          have HN : Hid (read4 s.data.toList = none) := Lib.hid (by rw [HR.out]; exact if_neg (not_all hkp (by rw [← hpl]; exact decOk_neg (by rw [hq]; exact hneg))))
          clear hneg hq hpl hkp hsz
          go_wp2_with (first | (go_at_call 97; refine (number10_calls p hps _).mono ?_; rintro e w' ⟨rfl, rfl⟩; rw [HQ.out]) | (refine wpList_store_blk rfl 35 _ _ rfl w.heap.size 35 zeroAd.cells zeroAd.cells rfl rfl BZ.out (by first | rfl | rw [csize zero_ok, csize zero_ok]) (szc zero_ok) (one_cells _) ?_; intro W9 P9))
          refine bodyPost_ret (v := .tuple #[.agg zeroAd.cells, .int .i64 30]) (by exact results_cell2 (fn := Tryd.f71) rfl _ _ w.heap.size 35 zeroAd.cells _ rfl P9.blk Tryd.underlying35 rfl (szc zero_ok)) rfl ⟨by rw [HN.out]; rfl, ?_⟩
          exact P9.below (HB1.out.trans (RB.out.mono HS1.out)) (Nat.le_refl _) (Nat.le_trans HS1.out HS.out)
        · have e1 : decide (q < 0) = false := decide_eq_false hneg
          by_cases hbig : 255 < q
          · have e2 : decide (255 < q) = true := decide_eq_true hbig
            have HN : Hid (read4 s.data.toList = none) := Lib.hid (by rw [HR.out]; exact if_neg (not_all hkp (by rw [← hpl]; exact decOk_big (by rw [hq]; exact hbig))))
            clear hneg hbig hq hpl hkp hsz
            go_wp2_with (first | (go_at_call 97; refine (number10_calls p hps _).mono ?_; rintro e w' ⟨rfl, rfl⟩; rw [HQ.out]) | (refine wpList_store_blk rfl 35 _ _ rfl w.heap.size 35 zeroAd.cells zeroAd.cells rfl rfl BZ.out (by first | rfl | rw [csize zero_ok, csize zero_ok]) (szc zero_ok) (one_cells _) ?_; intro W9 P9))
            refine bodyPost_ret (v := .tuple #[.agg zeroAd.cells, .int .i64 30]) (by exact results_cell2 (fn := Tryd.f71) rfl _ _ w.heap.size 35 zeroAd.cells _ rfl P9.blk Tryd.underlying35 rfl (szc zero_ok)) rfl ⟨by rw [HN.out]; rfl, ?_⟩
            exact P9.below (HB1.out.trans (RB.out.mono HS1.out)) (Nat.le_refl _) (Nat.le_trans HS1.out HS.out)
          · have e2 : decide (255 < q) = false := decide_eq_false hbig
            have hp0 : 0 < p.size := by rw [← hsz]; exact num_pos (by rw [hq]; omega)
            have hb0 : p.data.toList.getD 0 0 = p[0] := byte_toList p 0 hp0
            by_cases hone : 1 < p.size
            · have e3 : decide ((1 : Int) < (p.size : Int)) = true := decide_eq_true (by omega)
              have e3' : decide (1 < p.size) = true := decide_eq_true hone
              by_cases hz : p[0] = 48
              · have e4' : ((p[0].toNat : Int) == 48) = true := beq_iff_eq.2 (by rw [hz]; rfl)
                have HN : Hid (read4 s.data.toList = none) := Lib.hid (by rw [HR.out]; exact if_neg (not_all hkp (by rw [← hpl]; exact decOk_zero (by rw [hsz]; exact hone) (by rw [hb0]; exact hz))))
                clear hneg hbig hq hpl hkp hsz hb0 hz
                go_wp2_with (first | (go_at_call 97; refine (number10_calls p hps _).mono ?_; rintro e w' ⟨rfl, rfl⟩; rw [HQ.out]) | (refine wpList_store_blk rfl 35 _ _ rfl w.heap.size 35 zeroAd.cells zeroAd.cells rfl rfl BZ.out (by first | rfl | rw [csize zero_ok, csize zero_ok]) (szc zero_ok) (one_cells _) ?_; intro W9 P9))
                refine bodyPost_ret (v := .tuple #[.agg zeroAd.cells, .int .i64 30]) (by exact results_cell2 (fn := Tryd.f71) rfl _ _ w.heap.size 35 zeroAd.cells _ rfl P9.blk Tryd.underlying35 rfl (szc zero_ok)) rfl ⟨by rw [HN.out]; rfl, ?_⟩
                exact P9.below (HB1.out.trans (RB.out.mono HS1.out)) (Nat.le_refl _) (Nat.le_trans HS1.out HS.out)
              · have e4' : ((p[0].toNat : Int) == 48) = false := beq_eq_false_iff_ne.2 (fun h => hz (UInt8.toNat_inj.1 (by rw [show (48 : UInt8).toNat = 48 from rfl]; omega)))
                have HOK : Hid (decOk ((cuts 46 s.data.toList).getD k []) = true) := Lib.hid (by rw [← hpl]; exact decOk_yes (by rw [hq]; omega) (by rw [hq]; omega) (fun h => hz (by rw [← hb0]; exact h.2)))
                have HBY : Hid (q = ((decB (cuts 46 s.data.toList) k).toNat : Int)) := Lib.hid (by unfold decB; rw [← hpl, hq, UInt8.toNat_ofNat', Nat.mod_eq_of_lt (by omega)]; omega)
                have hq255 : q ≤ 255 := by omega
                have hq0 : 0 ≤ q := by omega
                obtain ⟨y1, hy1⟩ : ∃ y, wr.cell? ⟨W1.heap.size, 1 + k, none⟩ = some y := ⟨_, cell_b R1.out (part_ok _ _ _) k (by omega)⟩
                have f1 := R1.out.frozen (1 + k)
                clear hneg hbig hq hpl hkp hsz hb0 hz
                go_wp2_with (go_at_call 97; refine (number10_calls p hps _).mono ?_; rintro e w' ⟨rfl, rfl⟩; rw [HQ.out])
                exact ⟨⟨k + 1, by omega, by go_num, fun j hj => by rcases Nat.lt_or_ge j k with h | h; exact R0.out j h; rw [show j = k by omega]; exact HOK.out, part_round (by omega) HBY.out R1.out, RB.out.setCell (Nat.le_refl _) _, by have := RS.out; simpa using this⟩, by simp [intOf]; omega⟩
            · have e3 : decide ((1 : Int) < (p.size : Int)) = false := decide_eq_false (by omega)
              have e3' : decide (1 < p.size) = false := decide_eq_false hone
              have HOK : Hid (decOk ((cuts 46 s.data.toList).getD k []) = true) := Lib.hid (by rw [← hpl]; exact decOk_yes (by rw [hq]; omega) (by rw [hq]; omega) (fun h => hone (by rw [← hsz]; exact h.1)))
              have HBY : Hid (q = ((decB (cuts 46 s.data.toList) k).toNat : Int)) := Lib.hid (by unfold decB; rw [← hpl, hq, UInt8.toNat_ofNat', Nat.mod_eq_of_lt (by omega)]; omega)
              have hq255 : q ≤ 255 := by omega
              have hq0 : 0 ≤ q := by omega
              obtain ⟨y1, hy1⟩ : ∃ y, wr.cell? ⟨W1.heap.size, 1 + k, none⟩ = some y := ⟨_, cell_b R1.out (part_ok _ _ _) k (by omega)⟩
              have f1 := R1.out.frozen (1 + k)
              clear hneg hbig hq hpl hkp hsz hb0 hone
              go_wp2_with (go_at_call 97; refine (number10_calls p hps _).mono ?_; rintro e w' ⟨rfl, rfl⟩; rw [HQ.out])
              exact ⟨⟨k + 1, by omega, by go_num, fun j hj => by rcases Nat.lt_or_ge j k with h | h; exact R0.out j h; rw [show j = k by omega]; exact HOK.out, part_round (by omega) HBY.out R1.out, RB.out.setCell (Nat.le_refl _) _, by have := RS.out; simpa using this⟩, by simp [intOf]; omega⟩
      · obtain rfl : k = 4 := by omega
        have hp4 := part_ok 4 (decB (cuts 46 s.data.toList)) 4
        have HY : Hid (read4 s.data.toList = some ⟨4, partF (decB (cuts 46 s.data.toList)) 4⟩) := Lib.hid (by rw [HR.out]; exact if_pos (all_ok fun j hj => R0.out j (by rw [← cutsB_len, HN.out] at hj; omega)))
        go_wp2_with (first | (refine wpList_load_blk rfl 35 _ rfl W1.heap.size 35 _ _ rfl R1.out Tryd.underlying35 rfl (by as_aux_lemma => exact szc hp4) ?_) | (refine wpList_store_blk rfl 35 _ _ rfl w.heap.size 35 zeroAd.cells (Addr.cells ⟨4, partF (decB (cuts 46 s.data.toList)) 4⟩) rfl rfl BZ.out (by first | rfl | rw [csize hp4, csize zero_ok]) (szc hp4) (one_cells _) ?_; intro W9 P9))
        refine bodyPost_ret (v := .tuple #[.agg (Addr.cells ⟨4, partF (decB (cuts 46 s.data.toList)) 4⟩), .int .i64 0]) (by exact results_cell2 (fn := Tryd.f71) rfl _ _ w.heap.size 35 _ _ rfl P9.blk Tryd.underlying35 rfl (szc hp4)) rfl ⟨by rw [HY.out]; rfl, ?_⟩
        exact P9.below (HB1.out.trans (RB.out.mono HS1.out)) (Nat.le_refl _) (Nat.le_trans HS1.out HS.out)
  · have e4 : ((N : Int) != 4) = true := bne_iff_ne.2 (by omega)
    have HN2 : Hid (read4 s.data.toList = none) := Lib.hid (by unfold read4; rw [if_neg (by rw [← cutsB_len, HN.out]; exact h4)])
    have BZ := Lib.hid (bz1.out.later BW2.out (by have := HS1'.out; omega))
    go_wp2_with (refine wpList_store_blk rfl 35 _ _ rfl w.heap.size 35 zeroAd.cells zeroAd.cells rfl rfl BZ.out (by first | rfl | rw [csize zero_ok, csize zero_ok]) (szc zero_ok) (one_cells _) ?_; intro W9 P9)
    refine bodyPost_ret (v := .tuple #[.agg zeroAd.cells, .int .i64 30]) (by exact results_cell2 (fn := Tryd.f71) rfl _ _ w.heap.size 35 zeroAd.cells _ rfl P9.blk Tryd.underlying35 rfl (szc zero_ok)) rfl ⟨by rw [HN2.out]; rfl, ?_⟩
    exact P9.below (HB1.out.trans (BW2.out.mono HS1.out)) (Nat.le_refl _) (Nat.le_trans HS1.out (Nat.le_of_succ_le sW2.out))
end Go.Proofs.YtpaplobjmmpliaaDoor.Ad
