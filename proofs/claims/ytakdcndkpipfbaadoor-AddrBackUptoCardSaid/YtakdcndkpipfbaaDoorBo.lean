/- Contract of addr.Print. Conditions: an address has sixteen bytes; the library's tables hold what its text lays. -/
import Derived.Test.YtakdcndkpipfbaaDoorBn
import Derived.Lib.EndianBits
namespace Go.Proofs.YtakdcndkpipfbaaDoor.Ad
set_option linter.unusedVariables false
set_option linter.unusedSimpArgs false
open Go.RowKit W
/-- Texts laid at the front of n. -/
def sC (n : Nat) (done : List ByteArray) : Array Value := gC (done ++ List.replicate (n - done.length) ⟨#[]⟩)
theorem sC_size {n : Nat} {done : List ByteArray} (h : done.length ≤ n) : (sC n done).size = n := by unfold sC gC; simp; omega
theorem sC_set {n : Nat} {done : List ByteArray} (h : done.length < n) (s : ByteArray) : (sC n done).setIfInBounds done.length (.string s) = sC n (done ++ [s]) := by
  unfold sC gC
  apply Array.toList_inj.1
  rw [Array.toList_setIfInBounds]
  show List.set (List.map _ _) _ _ = _
  rw [show n - done.length = (n - (done ++ [s]).length) + 1 by simp; omega, List.replicate_succ, List.map_append, List.map_cons, List.set_append_right _ _ (by simp)]
  simp
theorem sC_full {n : Nat} {done : List ByteArray} (h : done.length = n) : sC n done = gC done := by
  unfold sC; rw [show n - done.length = 0 by omega]; simp
theorem made_strings (n : Nat) : madeCells (Value.string ⟨#[]⟩).cells n = sC n [] := by
  unfold sC gC madeCells
  apply Array.ext_getElem?
  intro k
  by_cases hk : k < n
  · simp [hk, Value.cells, Nat.mod_one]
  · simp [hk]
set_option maxRecDepth 100000 in
theorem make_strings (n : Nat) (hn : n ≤ 8) (w : World) : (Instr.makeSlice 43 (.int .i64 n) (.int .i64 n)).run Tryd.prog w = .ok (.slice (some ⟨w.heap.size, 0, none⟩) n n) (w.alloc (.cells (sC n []) 9)) := by
  have h : (Tryd.prog.info? 9).map (fun i => (i.zero, i.size, i.bytes)) = some (some (.string ⟨#[]⟩), 1, 16) := by kernel_rfl
  obtain ⟨i, hi, h2⟩ := Option.map_eq_some_iff.1 h
  injection h2 with h3 h4
  injection h4 with h4 h5
  rw [run_makeSlice (P := Tryd.prog) w 43 9 i (.string ⟨#[]⟩) Tryd.underlying43 hi h3 .i64 .i64 n n (by omega) (by omega) (by rw [h4]; omega) (by rw [h5]; omega) (by omega)]
  rw [h4]
  simp only [Int.toNat_natCast, Nat.mul_one]
  rw [made_strings]
theorem or_bytes {x y : Int} (hx1 : 0 ≤ x) (hx2 : x < 256) (hy1 : 0 ≤ y) (hy2 : y < 256) : Go.bits .or .u64 (x * 256) y = x * 256 + y := by
  exact bits_join .u64 64 (by decide) wraps_u64 8 (x * 256) y (by omega) (by omega) (by omega) hy1 (by omega) (by omega)
theorem format_is {n : Nat} {y : Int} (hn : n < 65536) (hy : y = (n : Int)) (w : World) (hg : Gl w) : Calls Tryd.prog 31 #[.int .u64 y, .int .i64 16] w fun e w' => e = .returned (.string (S (textB 16 n))) ∧ Below w.heap.size w w' := by
  subst hy; exact format_calls n hn w hg
set_option maxRecDepth 100000 in
theorem slice_to (g i : Nat) (h : i ≤ 8) (w : World) : (Instr.slice 43 (.slice (some ⟨g, 0, none⟩) 8 8) none (some (.int .i64 (i : Int))) none).run Tryd.prog w = .ok (.slice (some ⟨g, 0, none⟩) i 8) w := by
  have e2 : Tryd.prog.elem 43 = 9 := by kernel_rfl
  have e3 : (Go.sizeOf 9).run Tryd.prog w = .ok 1 w := by kernel_rfl
  rw [run_slice_h w 43 _ 8 8 Tryd.underlying43 .i64 (i : Int) (by omega) (by omega), e2, e3, Result.andThen_ok, sliced, Int.toNat_natCast]
  simp [Go.Addr.add]
set_option maxRecDepth 100000 in
theorem slice_from (g i : Nat) (h : i ≤ 8) : ∃ ad : Option Go.Addr, (∀ w, (Instr.slice 43 (.slice (some ⟨g, 0, none⟩) 8 8) (some (.int .i64 (i : Int))) none none).run Tryd.prog w = .ok (.slice ad (8 - i) (8 - i)) w) ∧ (0 < 8 - i → ad = some ⟨g, i, none⟩) := by
  refine ⟨if 8 = i then some ⟨g, 0, none⟩ else some (if i = 0 then ⟨g, 0, none⟩ else ⟨g, i, none⟩), fun w => ?_, fun h => by rw [if_neg (by omega)]; by_cases h0 : i = 0; rw [h0]; rfl; rw [if_neg h0]⟩
  have e2 : Tryd.prog.elem 43 = 9 := by kernel_rfl
  have e3 : (Go.sizeOf 9).run Tryd.prog w = .ok 1 w := by kernel_rfl
  rw [run_slice_l w 43 _ 8 8 Tryd.underlying43 .i64 (i : Int) (by omega) (by omega), e2, e3, Result.andThen_ok, sliced, Int.toNat_natCast]
  unfold Go.Addr.add
  simp
theorem str_put {W0 wr : World} {g n k : Nat} {done : List ByteArray} {s : ByteArray} (r : Put W0 wr g 9 (sC n done)) (hk : done.length = k) (h : k < n) :
    Put W0 (wr.setCell ⟨g, k, none⟩ (.string s)) g 9 (sC n (done ++ [s])) := by
  subst hk
  have := r.set_ done.length (.string s)
  rwa [sC_set h] at this
theorem str_cell {w : World} {g n k : Nat} {done : List ByteArray} (b : Blk w g 9 (sC n done)) (hd : done.length ≤ n) (h : k < n) : ∃ y, w.cell? ⟨g, k, none⟩ = some y :=
  ⟨_, (b.cell _).trans (Array.getElem?_eq_getElem (by rw [sC_size hd]; exact h))⟩
set_option maxRecDepth 100000 in
set_option maxHeartbeats 4000000 in
theorem print_calls (a : Addr) (ha : a.ok) (w : World) (hg : Gl w) : Calls Tryd.prog 16 #[.agg a.cells] w fun e w' => e = .returned (.string (S (printV a))) ∧ Below w.heap.size w w' := by
  obtain ⟨q, hq⟩ : ∃ q, a.valid = q := ⟨_, rfl⟩
  have HV := Lib.hid hq
  have HG := Lib.hid hg
  clear hg
  cases q
  · have HR : Hid (printV a = []) := Lib.hid (by unfold printV; rw [hq]; rfl)
    clear hq
    go_enter Tryd.func16, Tryd.ntmps16
    go_upto_region 1 with fail
    refine wp_named fun W hW => ?_
    obtain ⟨bk, BW, sW⟩ := box1 hW
    clear hW
    go_wp2_with (first | (refine wpList_load_blk rfl 24 _ rfl w.heap.size 24 _ _ rfl bk.out Tryd.underlying24 rfl (by as_aux_lemma => exact szc ‹_›) ?_) | (go_at_call 12; refine (valid_calls a ha _).mono ?_; rintro e W2 ⟨rfl, hB⟩; rw [HV.out]))
    have BW2 := keep BW hB
    go_ret
    exact ⟨by rw [HR.out]; rfl, BW2.out⟩
  · by_cases h4 : a.v = 4
    · have hmk : ∀ w, (Instr.makeSlice 43 (.int .i64 4) (.int .i64 4)).run Tryd.prog w = .ok (.slice (some ⟨w.heap.size, 0, none⟩) 4 4) (w.alloc (.cells (sC 4 []) 9)) := fun w => make_strings 4 (by omega) w
      have HR : Hid (printV a = print4 a.b) := Lib.hid (by unfold printV; rw [hq, if_pos rfl, if_pos h4])
      have e4 : (a.v == 4) = true := beq_iff_eq.2 h4
      clear hq h4
      go_enter Tryd.func16, Tryd.ntmps16
      go_upto_region 1 with fail
      refine wp_named fun W hW => ?_
      obtain ⟨bk, BW, sW⟩ := box1 hW
      clear hW
      go_upto_region 3 with (first | (refine wpList_load_blk rfl 24 _ rfl w.heap.size 24 _ _ rfl bk.out Tryd.underlying24 rfl (by as_aux_lemma => exact szc ‹_›) ?_) | (go_at_call 12; refine (valid_calls a ha _).mono ?_; rintro e W2 ⟨rfl, hB⟩; rw [HV.out]))
      have BW2 := keep BW hB
      have K2 := Lib.hid (bk.out.later hB (by have := sW.out; omega))
      have HW2 : Hid (w.heap.size < W2.heap.size) := Lib.hid K2.out.lt
      have HG2 := Lib.hid (HG.out.later BW2.out)
      clear hB
      have cv := cell_v K2.out
      go_upto_region 5 with fail
      refine wp_named fun W3 hW3 => ?_
      have bk3 : Hid (Blk W3 W2.heap.size 9 (sC 4 [])) := Lib.hid (by rw [hW3]; exact Blk.new _ _ _)
      have hb3 : Below W2.heap.size W2 W3 := by rw [hW3]; exact (Below.refl _ _).alloc (Nat.le_refl _) _
      have BW3 := keep BW2 hb3
      have K3 := Lib.hid (K2.out.later hb3 HW2.out)
      have HG3 := Lib.hid (HG2.out.later hb3)
      clear hW3 hb3 cv hmk
      go_wp2
      go_loopw [20] (fun i wr => ∃ k : Nat, i = .int .i64 k ∧ k ≤ 4 ∧ Put W3 wr W2.heap.size 9 (sC 4 ((List.range k).map fun i => S (textB 10 (a.b.getD i 0).toNat)))) (fun i _ => 4 - (intOf i).toNat)
      case atStart => exact ⟨0, rfl, by omega, Put.refl bk3.out⟩
      case round =>
        obtain ⟨k, rfl, hk, r1⟩ := hrel
        have R1 := Lib.hid r1
        clear r1
        have KW := Lib.hid (R1.out.far K3.out (by have := HW2.out; omega))
        have BWr : Hid (Below w.heap.size w wr) := Lib.hid (R1.out.below BW3.out (by have := HW2.out; omega) BW3.out.size)
        have HGr := Lib.hid (HG.out.later BWr.out)
        by_cases hlt : k < 4
        · obtain ⟨n, hn⟩ : ∃ n, (a.b.getD k 0).toNat = n := ⟨_, rfl⟩
          have hn2 : n < 256 := by rw [← hn]; exact (a.b.getD k 0).toNat_lt
          have c1 := cell_b KW.out ha k (by omega)
          rw [hn] at c1
          have HN := Lib.hid hn
          have HK := Lib.hid hlt
          have hn3 : Hid (n < 65536) := Lib.hid (by omega)
          clear hn
          go_wp2_with (go_at_call 29; (refine (itoa_calls n hn3.out _ HGr.out).mono ?_; rintro e W5 ⟨rfl, hB5⟩; have P5 := Lib.hid (Put.later_ R1.out hB5); have f5 := P5.out.blk.frozen k; obtain ⟨y5, hy5⟩ := str_cell (k := k) P5.out.blk (by rw [List.length_map, List.length_range]; omega) (by omega); clear hB5))
          refine ⟨⟨k + 1, by go_num, by have := HK.out; omega, ?_⟩, by have := HK.out; simp [intOf]; omega⟩
          have := str_put P5.out (by simp) HK.out (s := S (textB 10 n))
          rw [List.range_succ, List.map_append, List.map_singleton, HN.out]
          exact this
        · obtain rfl : k = 4 := by omega
          have KJ : Hid (Blk wr W2.heap.size 9 (gC ([0, 1, 2, 3].map fun i => S (textB 10 (a.b.getD i 0).toNat)))) := Lib.hid (by
            have := R1.out.blk
            rwa [sC_full (by simp)] at this)
          go_wp2_with (go_at_call 30; refine (join4_calls a.b _ _ KJ.out).mono ?_; rintro e W5 ⟨rfl, hB5⟩)
          go_ret
          exact ⟨by rw [HR.out]; rfl, (keep BWr hB5).out⟩
    · have hmk : ∀ w, (Instr.makeSlice 43 (.int .i64 8) (.int .i64 8)).run Tryd.prog w = .ok (.slice (some ⟨w.heap.size, 0, none⟩) 8 8) (w.alloc (.cells (sC 8 []) 9)) := fun w => make_strings 8 (by omega) w
      have HR : Hid (printV a = print6 a.b) := Lib.hid (by unfold printV; rw [hq, if_pos rfl, if_neg h4])
      have e4 : (a.v == 4) = false := beq_eq_false_iff_ne.2 h4
      clear hq h4
      go_enter Tryd.func16, Tryd.ntmps16
      go_upto_region 1 with fail
      refine wp_named fun W hW => ?_
      obtain ⟨bk, BW, sW⟩ := box1 hW
      clear hW
      go_upto_region 3 with (first | (refine wpList_load_blk rfl 24 _ rfl w.heap.size 24 _ _ rfl bk.out Tryd.underlying24 rfl (by as_aux_lemma => exact szc ‹_›) ?_) | (go_at_call 12; refine (valid_calls a ha _).mono ?_; rintro e W2 ⟨rfl, hB⟩; rw [HV.out]))
      have BW2 := keep BW hB
      have K2 := Lib.hid (bk.out.later hB (by have := sW.out; omega))
      have HW2 : Hid (w.heap.size < W2.heap.size) := Lib.hid K2.out.lt
      have HG2 := Lib.hid (HG.out.later BW2.out)
      clear hB
      have cv := cell_v K2.out
      go_upto_region 12 with fail
      refine wp_named fun W3 hW3 => ?_
      have bk3 : Hid (Blk W3 W2.heap.size 9 (sC 8 [])) := Lib.hid (by rw [hW3]; exact Blk.new _ _ _)
      have hb3 : Below W2.heap.size W2 W3 := by rw [hW3]; exact (Below.refl _ _).alloc (Nat.le_refl _) _
      have BW3 := keep BW2 hb3
      have K3 := Lib.hid (K2.out.later hb3 HW2.out)
      have HG3 := Lib.hid (HG2.out.later hb3)
      clear hW3 hb3 cv hmk
      go_wp2
      go_loopw [38] (fun i wr => ∃ k : Nat, i = .int .i64 k ∧ k ≤ 8 ∧ Put W3 wr W2.heap.size 9 (sC 8 ((List.range k).map fun k => S (textB 16 (grp a.b k))))) (fun i _ => 8 - (intOf i).toNat)
      case atStart => exact ⟨0, rfl, by omega, Put.refl bk3.out⟩
      case round =>
        obtain ⟨k, rfl, hk, r1⟩ := hrel
        have R1 := Lib.hid r1
        clear r1
        have KW := Lib.hid (R1.out.far K3.out (by have := HW2.out; omega))
        have BWr : Hid (Below w.heap.size w wr) := Lib.hid (R1.out.below BW3.out (by have := HW2.out; omega) BW3.out.size)
        have HGr := Lib.hid (HG.out.later BWr.out)
        by_cases hlt : k < 8
        · obtain ⟨x, hx⟩ : ∃ x : Int, ((a.b.getD (2 * k) 0).toNat : Int) = x := ⟨_, rfl⟩
          obtain ⟨y, hy⟩ : ∃ y : Int, ((a.b.getD (2 * k + 1) 0).toNat : Int) = y := ⟨_, rfl⟩
          have c1 : ∀ z : Later wr, z.val.cell? ⟨w.heap.size, 1 + 2 * k, none⟩ = some (.int .u8 x) := fun z => by
            have := cell_b (KW.out.later z.property KW.out.lt) ha (2 * k) (by omega)
            rwa [hx] at this
          have c2 : ∀ z : Later wr, z.val.cell? ⟨w.heap.size, 1 + (2 * k + 1), none⟩ = some (.int .u8 y) := fun z => by
            have := cell_b (KW.out.later z.property KW.out.lt) ha (2 * k + 1) (by omega)
            rwa [hy] at this
          have hx1 : 0 ≤ x := by omega
          have hx2 : x < 256 := by rw [← hx]; have := (a.b.getD (2 * k) 0).toNat_lt; omega
          have hy1 : 0 ≤ y := by omega
          have hy2 : y < 256 := by rw [← hy]; have := (a.b.getD (2 * k + 1) 0).toNat_lt; omega
          have HO : Hid (Go.bits .or .u64 (x * 256) y = ((grp a.b k : Nat) : Int)) := Lib.hid (by rw [or_bytes hx1 hx2 hy1 hy2]; unfold grp; omega)
          have HK := Lib.hid hlt
          clear hx hy
          go_wp2
          refine region_later_tail 19 (by kernel_rfl) (by kernel_rfl) ?_
          simp only [List.take_succ_cons, List.take_zero, List.drop_succ_cons, List.drop_zero]
          repeat (first | go_big_quiet_skip | (go_big_quiet_want; first | (go_big_quiet_op; first | go_big_quiet_on | go_big_quiet_call ((go_at_call 31; exact calls_later (format_is (grp_lt a.b k) HO.out _ (HGr.out.later ‹Later wr›.property)))))))
          refine wpQuiet_nil ?_
          intro z hz
          have P5 := Lib.hid (Put.later_ R1.out hz)
          have f5 := P5.out.blk.frozen k
          obtain ⟨y5, hy5⟩ := str_cell (k := k) P5.out.blk (by rw [List.length_map, List.length_range]; omega) (by omega)
          clear hz c1 c2
          go_wp2
          refine ⟨⟨k + 1, by go_num, by have := HK.out; omega, ?_⟩, by have := HK.out; simp [intOf]; omega⟩
          have := str_put P5.out (by simp) HK.out (s := S (textB 16 (grp a.b k)))
          rw [List.range_succ, List.map_append, List.map_singleton]
          exact this
        · obtain rfl : k = 8 := by omega
          have KJ : Hid (Blk wr W2.heap.size 9 (gC (gT a.b))) := Lib.hid (by
            have := R1.out.blk
            rwa [sC_full (by simp)] at this)
          obtain ⟨wo, rfl⟩ : ∃ wo, wo = wr := ⟨_, rfl⟩
          go_wp2
          go_loop [7, 8, 63] (fun f m i => ∃ k : Nat, i = .int .i64 k ∧ k ≤ 8 ∧ f = .int .i64 ((bestTo a.b k).1 : Nat) ∧ m = .int .i64 ((bestTo a.b k).2 : Nat)) (fun _ _ i => 8 - (intOf i).toNat)
          case atStart => exact ⟨0, rfl, by omega, rfl, rfl⟩
          case round =>
            obtain ⟨k, rfl, hk, rfl, rfl⟩ := hrel
            by_cases hlt : k < 8
            · obtain ⟨F, hF⟩ : ∃ F, (bestTo a.b k).1 = F := ⟨_, rfl⟩
              obtain ⟨M, hM⟩ : ∃ M, (bestTo a.b k).2 = M := ⟨_, rfl⟩
              rw [hF, hM]
              have HF := Lib.hid hF
              have HM := Lib.hid hM
              have HK := Lib.hid hlt
              clear hF hM
              go_wp2
              go_loop [10] (fun u => ∃ n : Nat, u = .int .i64 n ∧ k + n ≤ 8 ∧ runV a.b k = runV a.b (k + n) + n) (fun u => 8 - (intOf u).toNat)
              case atStart => exact ⟨0, rfl, by omega, rfl⟩
              case round =>
                obtain ⟨n, rfl, hn, hr⟩ := hrel
                have HRR := Lib.hid hr
                clear hr
                by_cases hg : k + n < 8 ∧ grp a.b (k + n) = 0
                · obtain ⟨h8, hz⟩ := hg
                  have e0 : decide ((k : Int) + n < 8) = true := decide_eq_true (by omega)
                  have e0' : decide (k + n < 8) = true := decide_eq_true h8
                  have hc : wo.cell? ⟨W2.heap.size, k + n, none⟩ = some (.string (S (textB 16 (grp a.b (k + n))))) := by rw [KJ.out.cell]; unfold gC; simp [gT_get a.b _ h8]
                  have hs := text_zero (grp a.b (k + n))
                  rw [decide_eq_true hz] at hs
                  have HN : Hid (runV a.b (k + n) = runV a.b (k + n + 1) + 1) := Lib.hid (runV_yes h8 hz)
                  clear hz
                  go_wp2
                  exact ⟨⟨n + 1, by go_num, by omega, by rw [HRR.out, HN.out, show k + (n + 1) = k + n + 1 by omega]; omega⟩, by simp [intOf]; omega⟩
                · have HN : Hid (runV a.b (k + n) = 0) := Lib.hid (runV_no hg)
                  have HE : Hid (runV a.b k = n) := Lib.hid (by rw [HRR.out, HN.out, Nat.zero_add])
                  have hstep : Hid (bestTo a.b (k + 1) = if M < n then (k, n) else (F, M)) := Lib.hid (by
                    rw [bestTo, HE.out, HM.out, ← HF.out, ← HM.out])
                  by_cases h8 : k + n < 8
                  · have hz : grp a.b (k + n) ≠ 0 := fun h => hg ⟨h8, h⟩
                    have e0 : decide ((k : Int) + n < 8) = true := decide_eq_true (by omega)
                    have e0' : decide (k + n < 8) = true := decide_eq_true h8
                    have hc : wo.cell? ⟨W2.heap.size, k + n, none⟩ = some (.string (S (textB 16 (grp a.b (k + n))))) := by rw [KJ.out.cell]; unfold gC; simp [gT_get a.b _ h8]
                    have hs := text_zero (grp a.b (k + n))
                    rw [decide_eq_false hz] at hs
                    clear hz hg
                    by_cases hmn : M < n
                    · have e1 : decide ((M : Int) < n) = true := decide_eq_true (by omega)
                      have e1' : decide (M < n) = true := decide_eq_true hmn
                      have HB : Hid (bestTo a.b (k + 1) = (k, n)) := Lib.hid (by rw [hstep.out, if_pos hmn])
                      clear hmn
                      go_wp2
                      exact ⟨⟨_, _, _, _, _, ⟨k + 1, by go_num, by have := HK.out; omega, by rw [HB.out], by rw [HB.out]⟩, rfl, rfl, rfl, rfl, rfl⟩, by have := HK.out; simp [intOf]; omega⟩
                    · have e1 : decide ((M : Int) < n) = false := decide_eq_false (by omega)
                      have e1' : decide (M < n) = false := decide_eq_false hmn
                      have HB : Hid (bestTo a.b (k + 1) = (F, M)) := Lib.hid (by rw [hstep.out, if_neg hmn])
                      clear hmn
                      go_wp2
                      exact ⟨⟨_, _, _, _, _, ⟨k + 1, by go_num, by have := HK.out; omega, by rw [HB.out], by rw [HB.out]⟩, rfl, rfl, rfl, rfl, rfl⟩, by have := HK.out; simp [intOf]; omega⟩
                  · have e0 : decide ((k : Int) + n < 8) = false := decide_eq_false (by omega)
                    have e0' : decide (k + n < 8) = false := decide_eq_false h8
                    clear hg
                    by_cases hmn : M < n
                    · have e1 : decide ((M : Int) < n) = true := decide_eq_true (by omega)
                      have e1' : decide (M < n) = true := decide_eq_true hmn
                      have HB : Hid (bestTo a.b (k + 1) = (k, n)) := Lib.hid (by rw [hstep.out, if_pos hmn])
                      clear hmn h8
                      go_wp2
                      exact ⟨⟨_, _, _, _, _, ⟨k + 1, by go_num, by have := HK.out; omega, by rw [HB.out], by rw [HB.out]⟩, rfl, rfl, rfl, rfl, rfl⟩, by have := HK.out; simp [intOf]; omega⟩
                    · have e1 : decide ((M : Int) < n) = false := decide_eq_false (by omega)
                      have e1' : decide (M < n) = false := decide_eq_false hmn
                      have HB : Hid (bestTo a.b (k + 1) = (F, M)) := Lib.hid (by rw [hstep.out, if_neg hmn])
                      clear hmn h8
                      go_wp2
                      exact ⟨⟨_, _, _, _, _, ⟨k + 1, by go_num, by have := HK.out; omega, by rw [HB.out], by rw [HB.out]⟩, rfl, rfl, rfl, rfl, rfl⟩, by have := HK.out; simp [intOf]; omega⟩
            · obtain rfl : k = 8 := by omega
              obtain ⟨F, hF⟩ : ∃ F, (bestTo a.b 8).1 = F := ⟨_, rfl⟩
              obtain ⟨M, hM⟩ : ∃ M, (bestTo a.b 8).2 = M := ⟨_, rfl⟩
              have hbest : best a.b = (F, M) := by unfold best; rw [← hF, ← hM]
              rw [hF, hM]
              have hfit := best_fits a.b
              rw [hbest] at hfit
              have HBE := Lib.hid hbest
              clear hF hM hlt hbest
              by_cases hm1 : M = 1
              · have e1 : ((M : Int) == 1) = true := beq_iff_eq.2 (by omega)
                have HX : Hid (print6 a.b = joinG a.b 0 8) := Lib.hid (by unfold print6; rw [HBE.out]; exact if_pos hm1)
                clear hm1 hfit
                go_wp2_with (go_at_call 30; refine (joinG_calls a.b 0 8 8 W2.heap.size _ (by omega) (by omega) (fun _ => rfl) _ KJ.out).mono ?_; rintro e W5 ⟨rfl, hB5⟩)
                go_ret
                exact ⟨by rw [HR.out, HX.out]; rfl, (keep BWr hB5).out⟩
              · have e1 : ((M : Int) == 1) = false := beq_eq_false_iff_ne.2 (by omega)
                obtain ⟨hM2, hFM, _⟩ : 2 ≤ M ∧ F + M ≤ 8 ∧ runV a.b F = M := by
                  rcases hfit with h | h
                  · injection h with h1 h2; exact absurd h2 hm1
                  · exact h
                have HX : Hid (print6 a.b = joinG a.b 0 F ++ [58, 58] ++ joinG a.b (F + M) (8 - (F + M))) := Lib.hid (by unfold print6; rw [HBE.out]; exact if_neg hm1)
                clear hm1 hfit
                obtain ⟨N, hN⟩ : ∃ N, 8 - (F + M) = N := ⟨_, rfl⟩
                rw [hN] at HX
                have hs1 := slice_to W2.heap.size F (by omega)
                obtain ⟨ad, hs2, had⟩ := slice_from W2.heap.size (F + M) hFM
                rw [hN] at hs2 had
                simp only [Int.natCast_add] at hs2
                have HAD := Lib.hid had
                have HA1 : Hid (0 + F ≤ 8) := Lib.hid (by omega)
                have HB1 : Hid (F + M + N ≤ 8) := Lib.hid (by omega)
                obtain ⟨p, hp⟩ : ∃ p, joinG a.b 0 F = p := ⟨_, rfl⟩
                obtain ⟨p1, hp1⟩ : ∃ p1, p ++ [58, 58] = p1 := ⟨_, rfl⟩
                obtain ⟨p2, hp2⟩ : ∃ p2, joinG a.b (F + M) N = p2 := ⟨_, rfl⟩
                obtain ⟨p3, hp3⟩ : ∃ p3, p1 ++ p2 = p3 := ⟨_, rfl⟩
                have z0 : (S p).size ≤ 40 := by rw [S_size, ← hp]; have := joinG_len a.b 0 F; omega
                have s1 : S p ++ ⟨#[58, 58]⟩ = S p1 := by rw [← hp1]; exact S_app p [58, 58]
                have z1 : (S p1).size ≤ 50 := by rw [← s1, ByteArray.size_append]; have : (ByteArray.mk #[58, 58]).size = 2 := rfl; omega
                have z2 : (S p2).size ≤ 40 := by rw [S_size, ← hp2]; have := joinG_len a.b (F + M) N; omega
                have s3 : S p1 ++ S p2 = S p3 := by rw [← hp3]; exact S_app p1 p2
                have HP3 : Hid (print6 a.b = p3) := Lib.hid (by rw [HX.out, hp, hp1, hp2, hp3])
                have HFM := Lib.hid hFM
                clear hp1 hp3 had HX hN
                go_wp2
                refine region_later (by kernel_rfl) (by kernel_rfl) ?_
                repeat (first | go_big_quiet_skip | (go_big_quiet_want; first | (go_big_quiet_op; first | go_big_quiet_on | go_big_quiet_call ((go_at_call 30; first | (with_reducible exact calls_later (joinG_calls a.b 0 F 8 W2.heap.size _ HA1.out (by omega) (fun _ => rfl) _ (Later.blk KJ.out _))) | (with_reducible exact calls_later (joinG_calls a.b (F + M) N N W2.heap.size _ HB1.out (Nat.le_refl _) HAD.out _ (Later.blk KJ.out _))))))))
                refine wpQuiet_nil ?_
                intro z hz
                have HBz := Lib.hid (BWr.out.trans (hz.mono BWr.out.size))
                clear hz
                go_wp2
                go_ret
                exact ⟨by rw [HR.out, HP3.out]; rfl, HBz.out⟩
end Go.Proofs.YtakdcndkpipfbaaDoor.Ad
