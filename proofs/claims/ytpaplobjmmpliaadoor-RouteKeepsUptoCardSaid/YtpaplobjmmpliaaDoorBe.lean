/- Contracts of addr.four and addr.Parse. Conditions: a text is shorter than 2^32 - 15; the library's own variable holds a number. -/
import Derived.Test.YtpaplobjmmpliaaDoorBd
namespace Go.Proofs.YtpaplobjmmpliaaDoor.Ad
set_option linter.unusedVariables false
set_option linter.unusedSimpArgs false
open Go.RowKit W
theorem Put.later_ {W0 w w' : World} {g : Nat} {t : TypeId} {cs : Array Value} (h : Put W0 w g t cs) (hb : Below w.heap.size w w') : Put W0 w' g t cs :=
  ⟨h.blk.later hb h.blk.lt, Nat.le_trans h.size hb.size, fun i hi hg => (hb.block i (Nat.lt_of_lt_of_le hi h.size)).trans (h.rest i hi hg), hb.os.trans h.env.1, hb.tape.trans h.env.2.1, hb.output.trans h.env.2.2⟩
theorem digitI_dec {z : Int} (h0 : 0 ≤ z) : (48 ≤ z ∧ z ≤ 57 ∧ digitI z = z - 48) ∨ ((z < 48 ∨ 57 < z) ∧ 10 ≤ digitI z) := by
  unfold digitI
  by_cases a1 : 48 ≤ z
  · rw [if_pos a1]
    by_cases a2 : z ≤ 57
    · rw [if_pos a2]; exact .inl ⟨a1, a2, rfl⟩
    · rw [if_neg a2]; right; refine ⟨.inr (by omega), ?_⟩
      repeat' split
      all_goals omega
  · rw [if_neg a1]; right; exact ⟨.inl (by omega), by omega⟩
theorem decOk_len {p : List UInt8} (h : p.length = 0 ∨ 3 < p.length) : decOk p = false := by
  have : numV p 10 3 = -1 := by
    unfold numV
    rcases h with h | h
    · rw [if_pos h]
    · rw [if_neg (by omega), if_pos (by omega)]
  exact decOk_neg (by omega)
theorem num10_fold {p : List UInt8} (h0 : 0 < p.length) (h3 : p.length ≤ 3) : numV p 10 3 = foldD 10 p 0 := by
  unfold numV; rw [if_neg (by omega), if_neg (by omega)]
set_option maxRecDepth 100000 in
set_option maxHeartbeats 4000000 in
theorem four_calls (s : ByteArray) (hs : s.size < 4294967281) (w : World) (hgl : Gl w) : Calls Tryd.prog 66 #[.string s] w (ReadPost (read4 s.data.toList) w) := by
  have z0 := zero_ok
  have z4 : Addr.ok ⟨4, zeros⟩ := rfl
  have hZ : Hid (Addr.cells ⟨4, partF (decB (cuts 46 s.data.toList)) 0⟩ = Addr.cells ⟨4, zeros⟩) := Lib.hid (by rw [partF_zero])
  obtain ⟨N, hN⟩ : ∃ N, (cutsB 46 s).length = N := ⟨_, rfl⟩
  have hlen : N ≤ 4294967297 := by
    rw [← hN, cutsB_len]; have := cuts_le 46 s.data.toList; have h2 : s.data.toList.length = s.size := by simp
    omega
  have CS := split_calls s 46 hs
  rw [hN] at CS
  have CS' := Lib.hid CS
  have HN := Lib.hid hN
  have GL := Lib.hid hgl
  clear hN CS hgl
  generalize hP : ReadPost (read4 s.data.toList) w = P
  have HP := Lib.hid hP
  clear hP
  go_enter Tryd.func66, Tryd.ntmps66
  go_upto_region 1 with fail
  refine wp_named fun W hW => ?_
  obtain ⟨bk, BW, sW⟩ := box1 (cs := zeroAd.cells) hW
  clear hW
  go_upto_region 2 with (refine wpList_store_blk rfl 35 _ _ rfl W.heap.size 35 zeroAd.cells (Addr.cells ⟨4, zeros⟩) rfl rfl (Blk.new _ _ _) (by first | rfl | rw [csize z4, csize zero_ok]) (szc z4) (one_cells _) ?_; intro W2 P2)
  have b2 := Lib.hid P2.blk
  have hsz := P2.size
  have bk2 := Lib.hid (P2.far (bk.out.alloc _) (by have := sW.out; omega))
  have BW2 := Lib.hid (P2.below (B := w.heap.size) (BW.out.alloc (by rw [sW.out]; omega) _) (by rw [sW.out]; omega) (by rw [World.size_alloc, sW.out]; omega))
  have sW2 : Hid (W.heap.size + 1 ≤ W2.heap.size) := Lib.hid (by simpa using hsz)
  have GL2 := Lib.hid (GL.out.later BW2.out)
  clear P2 hsz
  go_upto_region 3 with (go_at_call 91; (with_reducible refine (CS'.out _ GL2.out).mono ?_); rintro e W3 ⟨rfl, hw⟩; have hw3 := Lib.hid hw; clear hw)
  have B3 : Hid (Below W2.heap.size W2 W3) := Lib.hid (by rw [hw3.out]; exact (Below.refl _ _).alloc (Nat.le_refl _) _)
  have bp3 : Hid (Blk W3 W2.heap.size 9 ((cutsB 46 s).map Value.string).toArray) := Lib.hid (by rw [hw3.out]; exact Blk.new _ _ _)
  have b3 := Lib.hid (b2.out.later B3.out (by have := sW2.out; omega))
  have bz3 := Lib.hid (bk2.out.later B3.out (by have := sW2.out; have := sW.out; omega))
  have BW3 := Lib.hid (BW2.out.trans (B3.out.mono BW2.out.size))
  clear hw3 b2 bk bk2 BW BW2 GL GL2 CS'
  by_cases h4 : N = 4
  · have e4 : ((N : Int) != 4) = false := bne_eq_false_iff_eq.2 (by omega)
    have HR : Hid (read4 s.data.toList = if (cuts 46 s.data.toList).all decOk = true then some ⟨4, partF (decB (cuts 46 s.data.toList)) 4⟩ else none) := Lib.hid (by unfold read4; rw [if_pos (by rw [← cutsB_len, HN.out]; exact h4)])
    have H4 := Lib.hid h4
    have hN4 : N ≤ 4 := by omega
    have hN4' : 4 ≤ N := by omega
    clear h4
    go_wp2
    go_loopw [20] (fun i wr => ∃ k : Nat, k ≤ N ∧ i = .int .i64 k ∧ (∀ j, j < k → decOk ((cuts 46 s.data.toList).getD j []) = true) ∧ Put W3 wr W.heap.size 35 (Addr.cells ⟨4, partF (decB (cuts 46 s.data.toList)) k⟩)) (fun i _ => N - (intOf i).toNat)
    case atStart => exact ⟨0, by omega, rfl, fun j hj => by omega, Put.refl (by rw [hZ.out]; exact b3.out)⟩
    case round =>
      obtain ⟨k, hk, rfl, r0, r1⟩ := hrel
      obtain ⟨wo, rfl⟩ : ∃ wo : World, wo = wr := ⟨_, rfl⟩
      have R0 := Lib.hid r0
      have R1 := Lib.hid r1
      clear r0 r1
      by_cases hlt : k < N
      · obtain ⟨p, hp, hpl, hps'⟩ := cutsB_getD 46 s k (by rw [HN.out]; omega)
        have hkp : k < (cuts 46 s.data.toList).length := by rw [← cutsB_len, HN.out]; omega
        have hck : wo.cell? ⟨W2.heap.size, k, none⟩ = some (.string p) := put_cell R1.out (by rw [bp3.out.cell]; simp [hp]) (by have := sW2.out; omega)
        have hps : p.size ≤ 4294967296 := by omega
        have hsz : p.data.toList.length = p.size := by simp
        clear hp hps'
        by_cases hp0 : p.size < 1
        · have e0 : decide ((p.size : Int) < 1) = true := decide_eq_true (by omega)
          have e0' : decide (p.size < 1) = true := decide_eq_true hp0
          have HNN : Hid (P = ReadPost none w) := Lib.hid (by rw [← HP.out, HR.out, if_neg (not_all hkp (by rw [← hpl]; exact decOk_len (.inl (by omega))))])
          clear hp0 hpl hkp hsz
          have hpo := part_ok 4 (decB (cuts 46 s.data.toList)) k
          have BZ := Lib.hid (R1.out.far bz3.out (by have := sW.out; omega))
          have R4 := Lib.hid R1.out.blk
          have SZ := Lib.hid R1.out.size
          go_wp2_with (first | (refine wpList_load_blk rfl 35 _ rfl W.heap.size 35 _ _ rfl R4.out Tryd.underlying35 rfl (by as_aux_lemma => exact szc hpo) ?_) | (refine wpList_store_blk rfl 35 _ _ rfl w.heap.size 35 zeroAd.cells (Addr.cells ⟨4, partF (decB (cuts 46 s.data.toList)) k⟩) rfl rfl BZ.out (by first | rfl | rw [csize hpo, csize zero_ok]) (szc hpo) (one_cells _) ?_; intro W9 P9))
          rw [HNN.out]
          have HFIN : ∀ b : Addr, none = some b → (⟨4, partF (decB (cuts 46 s.data.toList)) k⟩ : Addr) = b := fun b h => by cases h
          refine bodyPost_ret (v := .tuple #[.agg (Addr.cells ⟨4, partF (decB (cuts 46 s.data.toList)) k⟩), .bool false]) (by exact results_cell2 (fn := Tryd.f66) rfl _ _ w.heap.size 35 _ _ rfl P9.blk Tryd.underlying35 rfl (szc (part_ok _ _ _))) rfl ⟨_, part_ok _ _ _, rfl, HFIN, P9.below (R1.out.below BW3.out (by have := sW.out; omega) BW3.out.size) (Nat.le_refl _) (by have := SZ.out; have := BW3.out.size; omega)⟩
        · have e0 : decide ((p.size : Int) < 1) = false := decide_eq_false (by omega)
          have e0' : decide (p.size < 1) = false := decide_eq_false hp0
          have hpos : 0 < p.size := by omega
          by_cases hp3 : 3 < p.size
          · have e1 : decide ((3 : Int) < (p.size : Int)) = true := decide_eq_true (by omega)
            have e1' : decide (3 < p.size) = true := decide_eq_true hp3
            have HNN : Hid (P = ReadPost none w) := Lib.hid (by rw [← HP.out, HR.out, if_neg (not_all hkp (by rw [← hpl]; exact decOk_len (.inr (by omega))))])
            clear hp0 hp3 hpl hkp hsz
            have hpo := part_ok 4 (decB (cuts 46 s.data.toList)) k
            have BZ := Lib.hid (R1.out.far bz3.out (by have := sW.out; omega))
            have R4 := Lib.hid R1.out.blk
            have SZ := Lib.hid R1.out.size
            go_wp2_with (first | (refine wpList_load_blk rfl 35 _ rfl W.heap.size 35 _ _ rfl R4.out Tryd.underlying35 rfl (by as_aux_lemma => exact szc hpo) ?_) | (refine wpList_store_blk rfl 35 _ _ rfl w.heap.size 35 zeroAd.cells (Addr.cells ⟨4, partF (decB (cuts 46 s.data.toList)) k⟩) rfl rfl BZ.out (by first | rfl | rw [csize hpo, csize zero_ok]) (szc hpo) (one_cells _) ?_; intro W9 P9))
            rw [HNN.out]
            have HFIN : ∀ b : Addr, none = some b → (⟨4, partF (decB (cuts 46 s.data.toList)) k⟩ : Addr) = b := fun b h => by cases h
            refine bodyPost_ret (v := .tuple #[.agg (Addr.cells ⟨4, partF (decB (cuts 46 s.data.toList)) k⟩), .bool false]) (by exact results_cell2 (fn := Tryd.f66) rfl _ _ w.heap.size 35 _ _ rfl P9.blk Tryd.underlying35 rfl (szc (part_ok _ _ _))) rfl ⟨_, part_ok _ _ _, rfl, HFIN, P9.below (R1.out.below BW3.out (by have := sW.out; omega) BW3.out.size) (Nat.le_refl _) (by have := SZ.out; have := BW3.out.size; omega)⟩
          · have e1 : decide ((3 : Int) < (p.size : Int)) = false := decide_eq_false (by omega)
            have e1' : decide (3 < p.size) = false := decide_eq_false hp3
            have hb0 : p.data.toList.getD 0 0 = p[0] := byte_toList p 0 hpos
            by_cases hzo : p[0] = 48 ∧ 1 < p.size
            · have e2 : ((p[0].toNat : Int) == 48) = true := beq_iff_eq.2 (by rw [hzo.1]; rfl)
              have e3 : decide ((1 : Int) < (p.size : Int)) = true := decide_eq_true (by omega)
              have e3' : decide (1 < p.size) = true := decide_eq_true hzo.2
              have HNN : Hid (P = ReadPost none w) := Lib.hid (by rw [← HP.out, HR.out, if_neg (not_all hkp (by rw [← hpl]; exact decOk_zero (by omega) (by rw [hb0]; exact hzo.1)))])
              clear hp0 hp3 hpl hkp hsz hb0 hzo
              have hpo := part_ok 4 (decB (cuts 46 s.data.toList)) k
              have BZ := Lib.hid (R1.out.far bz3.out (by have := sW.out; omega))
              have R4 := Lib.hid R1.out.blk
              have SZ := Lib.hid R1.out.size
              go_wp2_with (first | (refine wpList_load_blk rfl 35 _ rfl W.heap.size 35 _ _ rfl R4.out Tryd.underlying35 rfl (by as_aux_lemma => exact szc hpo) ?_) | (refine wpList_store_blk rfl 35 _ _ rfl w.heap.size 35 zeroAd.cells (Addr.cells ⟨4, partF (decB (cuts 46 s.data.toList)) k⟩) rfl rfl BZ.out (by first | rfl | rw [csize hpo, csize zero_ok]) (szc hpo) (one_cells _) ?_; intro W9 P9))
              rw [HNN.out]
              have HFIN : ∀ b : Addr, none = some b → (⟨4, partF (decB (cuts 46 s.data.toList)) k⟩ : Addr) = b := fun b h => by cases h
              refine bodyPost_ret (v := .tuple #[.agg (Addr.cells ⟨4, partF (decB (cuts 46 s.data.toList)) k⟩), .bool false]) (by exact results_cell2 (fn := Tryd.f66) rfl _ _ w.heap.size 35 _ _ rfl P9.blk Tryd.underlying35 rfl (szc (part_ok _ _ _))) rfl ⟨_, part_ok _ _ _, rfl, HFIN, P9.below (R1.out.below BW3.out (by have := sW.out; omega) BW3.out.size) (Nat.le_refl _) (by have := SZ.out; have := BW3.out.size; omega)⟩
            · have hzz : (((p[0].toNat : Int) == 48) = false) ∨ (((p[0].toNat : Int) == 48) = true ∧ decide ((1 : Int) < (p.size : Int)) = false ∧ decide (1 < p.size) = false) := by
                by_cases h : p[0] = 48
                · exact .inr ⟨beq_iff_eq.2 (by rw [h]; rfl), decide_eq_false (fun h' => hzo ⟨h, by omega⟩), decide_eq_false (fun h' => hzo ⟨h, h'⟩)⟩
                · exact .inl (beq_eq_false_iff_ne.2 (fun h' => h (UInt8.toNat_inj.1 (by rw [show (48 : UInt8).toNat = 48 from rfl]; omega))))
              have HNZ : Hid (¬ (1 < p.data.toList.length ∧ p.data.toList.getD 0 0 = 48)) := Lib.hid (by rw [hb0, hsz]; exact fun h => hzo ⟨h.2, h.1⟩)
              have HNF : Hid (numV p.data.toList 10 3 = foldD 10 p.data.toList 0) := Lib.hid (num10_fold (by omega) (by omega))
              have hpm : p.size ≤ 3 := by omega
              have HPL := Lib.hid hpl
              clear hp0 hp3 hb0 hzo
              rcases hzz with hz1 | ⟨hz1, hz2, hz3⟩
              all_goals (
                go_upto_region 12 with (refine wpList_conv rfl 9 67 5 Tryd.underlying9 Tryd.underlying67 Tryd.underlying5 _ rfl p rfl ?_; intro gb cb W5 hb5 hg5 hgl5 hc5)
                have R5 := Lib.hid (Put.later_ R1.out hb5)
                have HC5 := hc5
                clear hb5 hg5 hgl5 hc5
                go_wp2
                go_loopw [8, 47] (fun n jj wr => ∃ (j : Nat) (acc : Int), j ≤ p.size ∧ jj = .int .i64 j ∧ n = .int .i64 acc ∧ 0 ≤ acc ∧ acc < 16 ^ j ∧ foldD 10 p.data.toList 0 = foldD 10 (p.data.toList.drop j) acc ∧ wr = W5) (fun _ jj _ => p.size - (intOf jj).toNat)
                case atStart => exact ⟨0, 0, by omega, rfl, rfl, by omega, by omega, rfl, rfl⟩
                case round =>
                  obtain ⟨j, acc, hj, rfl, rfl, ha0, ha1, hf, rfl⟩ := hrel
                  by_cases hltj : j < p.size
                  · obtain ⟨z, hz⟩ : ∃ z : Int, (p[j].toNat : Int) = z := ⟨_, rfl⟩
                    have hcz : wr.cell? ⟨gb, j, none⟩ = some (.int .u8 z) := by rw [HC5.out j hltj, byte_toList p j hltj, hz]
                    have hz0 : 0 ≤ z := by omega
                    have hz255 : z ≤ 255 := by have := p[j].toNat_lt; omega
                    have HF : Hid (foldD 10 p.data.toList 0 = if 10 ≤ digitI z then -1 else foldD 10 (p.data.toList.drop (j + 1)) (acc * 10 + digitI z)) := Lib.hid (by rw [hf, drop_byte p j hltj, foldD]; unfold digitV; rw [hz])
                    have hp : (16 : Int) ^ j ≤ 256 := by
                      have : (16 : Nat) ^ j ≤ 16 ^ 2 := Nat.pow_le_pow_right (by omega) (by omega)
                      have h2 : ((16 ^ j : Nat) : Int) ≤ ((16 ^ 2 : Nat) : Int) := by omega
                      simpa using h2
                    have HA : Hid (acc < 16 ^ j) := Lib.hid ha1
                    have ha2 : acc < 256 := by omega
                    have hdd := digitI_dec hz0
                    clear hf ha1 hp hz
                    rcases hdd with ⟨a1, a2, a3⟩ | ⟨a1, a3⟩
                    · have f1 : decide (z < 48) = false := decide_eq_false (by omega)
                      have f2 : decide (57 < z) = false := decide_eq_false (by omega)
                      have HS2 : Hid (foldD 10 p.data.toList 0 = foldD 10 (p.data.toList.drop (j + 1)) (acc * 10 + (z - 48))) := Lib.hid (by rw [HF.out, if_neg (by omega), a3])
                      clear a3 f1 f2
                      go_wp2
                      exact ⟨⟨j + 1, acc * 10 + (z - 48), by omega, by go_num, by simp; omega, by omega, by rw [Int.pow_succ]; have := HA.out; omega, HS2.out, trivial⟩, by simp [intOf]; omega⟩
                    · have hbad : foldD 10 p.data.toList 0 = -1 := by rw [HF.out, if_pos a3]
                      rcases a1 with a1 | a1
                      · have f1 : decide (z < 48) = true := decide_eq_true a1
                        have HNN : Hid (P = ReadPost none w) := Lib.hid (by rw [← HP.out, HR.out, if_neg (not_all hkp (by rw [← hpl]; exact decOk_neg (by rw [HNF.out, hbad]; decide)))])
                        clear hbad a3 hpl hkp hsz
                        have hpo := part_ok 4 (decB (cuts 46 s.data.toList)) k
                        have BZ := Lib.hid (R5.out.far bz3.out (by have := sW.out; omega))
                        have R4 := Lib.hid R5.out.blk
                        have SZ := Lib.hid R5.out.size
                        go_wp2_with (first | (refine wpList_load_blk rfl 35 _ rfl W.heap.size 35 _ _ rfl R4.out Tryd.underlying35 rfl (by as_aux_lemma => exact szc hpo) ?_) | (refine wpList_store_blk rfl 35 _ _ rfl w.heap.size 35 zeroAd.cells (Addr.cells ⟨4, partF (decB (cuts 46 s.data.toList)) k⟩) rfl rfl BZ.out (by first | rfl | rw [csize hpo, csize zero_ok]) (szc hpo) (one_cells _) ?_; intro W9 P9))
                        rw [HNN.out]
                        have HFIN : ∀ b : Addr, none = some b → (⟨4, partF (decB (cuts 46 s.data.toList)) k⟩ : Addr) = b := fun b h => by cases h
                        refine bodyPost_ret (v := .tuple #[.agg (Addr.cells ⟨4, partF (decB (cuts 46 s.data.toList)) k⟩), .bool false]) (by exact results_cell2 (fn := Tryd.f66) rfl _ _ w.heap.size 35 _ _ rfl P9.blk Tryd.underlying35 rfl (szc (part_ok _ _ _))) rfl ⟨_, part_ok _ _ _, rfl, HFIN, P9.below (R5.out.below BW3.out (by have := sW.out; omega) BW3.out.size) (Nat.le_refl _) (by have := SZ.out; have := BW3.out.size; omega)⟩
                      · have f2 : decide (57 < z) = true := decide_eq_true a1
                        have f1 : decide (z < 48) = false := decide_eq_false (by omega)
                        have HNN : Hid (P = ReadPost none w) := Lib.hid (by rw [← HP.out, HR.out, if_neg (not_all hkp (by rw [← hpl]; exact decOk_neg (by rw [HNF.out, hbad]; decide)))])
                        clear hbad a3 hpl hkp hsz
                        have hpo := part_ok 4 (decB (cuts 46 s.data.toList)) k
                        have BZ := Lib.hid (R5.out.far bz3.out (by have := sW.out; omega))
                        have R4 := Lib.hid R5.out.blk
                        have SZ := Lib.hid R5.out.size
                        go_wp2_with (first | (refine wpList_load_blk rfl 35 _ rfl W.heap.size 35 _ _ rfl R4.out Tryd.underlying35 rfl (by as_aux_lemma => exact szc hpo) ?_) | (refine wpList_store_blk rfl 35 _ _ rfl w.heap.size 35 zeroAd.cells (Addr.cells ⟨4, partF (decB (cuts 46 s.data.toList)) k⟩) rfl rfl BZ.out (by first | rfl | rw [csize hpo, csize zero_ok]) (szc hpo) (one_cells _) ?_; intro W9 P9))
                        rw [HNN.out]
                        have HFIN : ∀ b : Addr, none = some b → (⟨4, partF (decB (cuts 46 s.data.toList)) k⟩ : Addr) = b := fun b h => by cases h
                        refine bodyPost_ret (v := .tuple #[.agg (Addr.cells ⟨4, partF (decB (cuts 46 s.data.toList)) k⟩), .bool false]) (by exact results_cell2 (fn := Tryd.f66) rfl _ _ w.heap.size 35 _ _ rfl P9.blk Tryd.underlying35 rfl (szc (part_ok _ _ _))) rfl ⟨_, part_ok _ _ _, rfl, HFIN, P9.below (R5.out.below BW3.out (by have := sW.out; omega) BW3.out.size) (Nat.le_refl _) (by have := SZ.out; have := BW3.out.size; omega)⟩
                  · have hqa : numV p.data.toList 10 3 = acc := by rw [HNF.out, hf, List.drop_eq_nil_of_le (by simp; omega)]; rfl
                    have ha3 : acc ≤ 4095 := by
                      have h1 : (16 : Nat) ^ j ≤ 16 ^ 3 := Nat.pow_le_pow_right (by omega) (by omega)
                      have h2 : ((16 ^ j : Nat) : Int) ≤ ((16 ^ 3 : Nat) : Int) := by omega
                      simp at h2
                      omega
                    have HQA := Lib.hid hqa
                    clear hf ha1 hqa
                    by_cases hbig : 255 < acc
                    · have g1 : decide (255 < acc) = true := decide_eq_true hbig
                      have HNN : Hid (P = ReadPost none w) := Lib.hid (by rw [← HP.out, HR.out, if_neg (not_all hkp (by rw [← hpl]; exact decOk_big (by rw [HQA.out]; exact hbig)))])
                      clear hpl hkp hsz
                      have hpo := part_ok 4 (decB (cuts 46 s.data.toList)) k
                      have BZ := Lib.hid (R5.out.far bz3.out (by have := sW.out; omega))
                      have R4 := Lib.hid R5.out.blk
                      have SZ := Lib.hid R5.out.size
                      go_wp2_with (first | (refine wpList_load_blk rfl 35 _ rfl W.heap.size 35 _ _ rfl R4.out Tryd.underlying35 rfl (by as_aux_lemma => exact szc hpo) ?_) | (refine wpList_store_blk rfl 35 _ _ rfl w.heap.size 35 zeroAd.cells (Addr.cells ⟨4, partF (decB (cuts 46 s.data.toList)) k⟩) rfl rfl BZ.out (by first | rfl | rw [csize hpo, csize zero_ok]) (szc hpo) (one_cells _) ?_; intro W9 P9))
                      rw [HNN.out]
                      have HFIN : ∀ b : Addr, none = some b → (⟨4, partF (decB (cuts 46 s.data.toList)) k⟩ : Addr) = b := fun b h => by cases h
                      refine bodyPost_ret (v := .tuple #[.agg (Addr.cells ⟨4, partF (decB (cuts 46 s.data.toList)) k⟩), .bool false]) (by exact results_cell2 (fn := Tryd.f66) rfl _ _ w.heap.size 35 _ _ rfl P9.blk Tryd.underlying35 rfl (szc (part_ok _ _ _))) rfl ⟨_, part_ok _ _ _, rfl, HFIN, P9.below (R5.out.below BW3.out (by have := sW.out; omega) BW3.out.size) (Nat.le_refl _) (by have := SZ.out; have := BW3.out.size; omega)⟩
                    · have g1 : decide (255 < acc) = false := decide_eq_false hbig
                      have ha255 : acc ≤ 255 := by omega
                      have HOK : Hid (decOk ((cuts 46 s.data.toList).getD k []) = true) := Lib.hid (by rw [← hpl]; exact decOk_yes (by rw [HQA.out]; omega) (by rw [HQA.out]; omega) HNZ.out)
                      have HBY : Hid (acc = ((decB (cuts 46 s.data.toList) k).toNat : Int)) := Lib.hid (by unfold decB; rw [← hpl, HQA.out, UInt8.toNat_ofNat', Nat.mod_eq_of_lt (by omega)]; omega)
                      obtain ⟨y1, hy1⟩ : ∃ y, wr.cell? ⟨W.heap.size, 1 + k, none⟩ = some y := ⟨_, cell_b R5.out.blk (part_ok _ _ _) k (by omega)⟩
                      have f1 := R5.out.blk.frozen (1 + k)
                      clear hbig hpl hkp hsz
                      go_wp2
                      exact ⟨⟨k + 1, by omega, by go_num, fun j hj => by rcases Nat.lt_or_ge j k with h | h; exact R0.out j h; rw [show j = k by omega]; exact HOK.out, part_put (by omega) HBY.out R5.out⟩, by simp [intOf]; omega⟩)
      · obtain rfl : k = N := by omega
        have HNN : Hid (P = ReadPost (some ⟨4, partF (decB (cuts 46 s.data.toList)) 4⟩) w) := Lib.hid (by rw [← HP.out, HR.out, if_pos (all_ok fun j hj => R0.out j (by rw [← cutsB_len, HN.out] at hj; omega))])
        have hpo := part_ok 4 (decB (cuts 46 s.data.toList)) k
        have BZ := Lib.hid (R1.out.far bz3.out (by have := sW.out; omega))
        have R4 := Lib.hid R1.out.blk
        have SZ := Lib.hid R1.out.size
        go_wp2_with (first | (refine wpList_load_blk rfl 35 _ rfl W.heap.size 35 _ _ rfl R4.out Tryd.underlying35 rfl (by as_aux_lemma => exact szc hpo) ?_) | (refine wpList_store_blk rfl 35 _ _ rfl w.heap.size 35 zeroAd.cells (Addr.cells ⟨4, partF (decB (cuts 46 s.data.toList)) k⟩) rfl rfl BZ.out (by first | rfl | rw [csize hpo, csize zero_ok]) (szc hpo) (one_cells _) ?_; intro W9 P9))
        rw [HNN.out]
        have HFIN : ∀ b : Addr, some (⟨4, partF (decB (cuts 46 s.data.toList)) 4⟩ : Addr) = some b → (⟨4, partF (decB (cuts 46 s.data.toList)) k⟩ : Addr) = b := fun b h => by rw [H4.out]; injection h
        refine bodyPost_ret (v := .tuple #[.agg (Addr.cells ⟨4, partF (decB (cuts 46 s.data.toList)) k⟩), .bool true]) (by exact results_cell2 (fn := Tryd.f66) rfl _ _ w.heap.size 35 _ _ rfl P9.blk Tryd.underlying35 rfl (szc (part_ok _ _ _))) rfl ⟨_, part_ok _ _ _, rfl, HFIN, P9.below (R1.out.below BW3.out (by have := sW.out; omega) BW3.out.size) (Nat.le_refl _) (by have := SZ.out; have := BW3.out.size; omega)⟩
  · have e4 : ((N : Int) != 4) = true := bne_iff_ne.2 (by omega)
    have HNN : Hid (P = ReadPost none w) := Lib.hid (by rw [← HP.out]; unfold read4; rw [if_neg (by rw [← cutsB_len, HN.out]; exact h4)])
    have SZ : Hid (w.heap.size ≤ W3.heap.size) := Lib.hid BW3.out.size
    clear h4
    go_wp2_with (first | (refine wpList_load_blk rfl 35 _ rfl W.heap.size 35 _ _ rfl b3.out Tryd.underlying35 rfl (by as_aux_lemma => exact szc z4) ?_) | (refine wpList_store_blk rfl 35 _ _ rfl w.heap.size 35 zeroAd.cells (Addr.cells ⟨4, zeros⟩) rfl rfl bz3.out (by first | rfl | rw [csize z4, csize zero_ok]) (szc z4) (one_cells _) ?_; intro W9 P9))
    rw [HNN.out]
    refine bodyPost_ret (v := .tuple #[.agg (Addr.cells ⟨4, zeros⟩), .bool false]) (by exact results_cell2 (fn := Tryd.f66) rfl _ _ w.heap.size 35 _ _ rfl P9.blk Tryd.underlying35 rfl (szc z4)) rfl ⟨_, z4, rfl, (fun b h => by cases h), P9.below BW3.out (Nat.le_refl _) SZ.out⟩
end Go.Proofs.YtpaplobjmmpliaaDoor.Ad
