/- Contract of mosaicref03.text: a number's text to the base 10 or 16. Conditions: the number is below 65536. Contract of mosaicref03.run: how many groups are 0. Conditions: an address has sixteen bytes. Contract of mosaicref03.some: some groups with a colon between each two. Conditions: an address has sixteen bytes. Contract of the reference's Print. Conditions: an address has sixteen bytes. -/
import Derived.Test.YtpaplobjmmpliaaGreatDoorAn
import Derived.Test.YtpaplobjmmpliaaGreatDoorP1
namespace Go.Proofs.YtpaplobjmmpliaaGreatDoor.Ad
set_option linter.unusedVariables false
set_option linter.unusedSimpArgs false
open Go.RowKit W
def digits16 : ByteArray := ⟨#[48, 49, 50, 51, 52, 53, 54, 55, 56, 57, 97, 98, 99, 100, 101, 102]⟩
theorem digs16 (k : Nat) (h : k < 16) (h2 : k < digits16.size) : digits16[k] = digC k := by
  have : ∀ k : Fin 16, digits16.data.toList.getD k.val 0 = digC k.val := by decide
  rw [← this ⟨k, h⟩, List.getD_eq_getElem?_getD, List.getElem?_eq_getElem (by simpa using h2)]
  rfl
theorem one_byte {w : World} {g : Nat} {t : TypeId} {x : UInt8} (b : Blk w g t #[.int .u8 (x.toNat : Int)]) : Lib.Bytes w g 0 (S [x]) := fun i hi => by
  have : i = 0 := by rw [S_size] at hi; simp at hi; omega
  subst this
  rw [b.cell]
  rfl
theorem conv1 (b n : Nat) {y : Int} (h : n % b < 16) (hy : y = (((digits16[n % b]'h).toNat : Nat) : Int)) (w : World) : Hid (∀ W2, w.alloc (.cells #[.int .u8 y] 5) = W2 → (convert 30 9 (.slice (some ⟨w.heap.size, 0, none⟩) 1 1)).run Tryz.prog W2 = .ok (.string (S [digC (n % b)])) W2) := Lib.hid fun W2 h2 => by
  have hb : Blk W2 w.heap.size 5 #[.int .u8 ((digC (n % b)).toNat : Int)] := by
    rw [← h2, hy, digs16 _ h h]; exact Blk.new _ _ _
  exact Lib.run_convert_whole (P := Tryz.prog) W2 30 5 9 Tryz.underlying30 Tryz.underlying5 Tryz.underlying9 w.heap.size 0 (S [digC (n % b)]) (one_byte hb) 1
/-- What is laid and what is left, to a base. -/
def LaidB (b n m : Nat) (ds : List UInt8) : Prop := textB b n = textB b m ++ ds
theorem LaidB.step {b n m : Nat} {ds : List UInt8} (h : LaidB b n m ds) (hm : b ≤ m) (hb : 2 ≤ b) : LaidB b n (m / b) (digC (m % b) :: ds) := by
  unfold LaidB at *
  rw [h, textB_more hm hb]; simp
theorem LaidB.last {b n m : Nat} {ds : List UInt8} (h : LaidB b n m ds) (hm : m < b) : textB b n = digC (m % b) :: ds := by
  unfold LaidB at h
  rw [h, textB_one hm, Nat.mod_eq_of_lt hm]; rfl
set_option maxRecDepth 100000 in
set_option maxHeartbeats 4000000 in
theorem text_calls (b n : Nat) (hb : b = 10 ∨ b = 16) (hn : n < 65536) (w : World) : Calls Tryz.prog 38 #[.int .i64 n, .int .i64 b] w fun e w' => e = .returned (.string (S (textB b n))) ∧ Below w.heap.size w w' := by
  have hb1 : 2 ≤ b := by omega
  have hb2 : b ≤ 16 := by omega
  have hb3 : (b : Int) ≠ 0 := by omega
  clear hb
  go_enter Tryz.func38, Tryz.ntmps38
  go_wp2
  go_loopw [0, 5] (fun u t wr => ∃ (m : Nat) (ds : List UInt8), u = .int .i64 m ∧ t = .string (S ds) ∧ LaidB b n m ds ∧ m ≤ n ∧ Below w.heap.size w wr) (fun u _ _ => (intOf u).toNat)
  case atStart => exact ⟨n, [], rfl, rfl, by simp [LaidB], Nat.le_refl _, Below.refl _ _⟩
  case round =>
    obtain ⟨m, ds, rfl, rfl, hl, hm, r1⟩ := hrel
    have R1 := Lib.hid r1
    have HL := Lib.hid hl
    clear r1 hl
    have hw64 : wrap64 ((m : Int) / b) = ((m / b : Nat) : Int) := by
      have h1 := Nat.div_le_self m b
      rw [show ((m : Int) / b) = ((m / b : Nat) : Int) by simp]
      obtain ⟨q, hq⟩ : ∃ q, m / b = q := ⟨_, rfl⟩
      rw [hq] at h1 ⊢
      unfold wrap64; omega
    have hdl : ¬ 9223372036854775807 < (S [digC (m % b)]).size + (S ds).size := by
      have h1 := textB_le b n
      have h2 := HL.out
      unfold LaidB at h2
      rw [h2] at h1
      rw [S_size, S_size]
      simp at h1 ⊢; omega
    have hk : m % b < 16 := by have := Nat.mod_lt m (show 0 < b by omega); omega
    have hr : ((m : Int).tmod b) = ((m % b : Nat) : Int) := by rw [Int.tmod_eq_emod_of_nonneg (by omega)]; simp
    have hq : ((m : Int).tdiv b) = ((m / b : Nat) : Int) := by rw [Int.tdiv_eq_ediv_of_nonneg (by omega)]; simp
    have hqs : m / b < 65536 := by have := Nat.div_le_self m b; omega
    have hkk : ((m % b : Nat) : Int) < 16 := by omega
    by_cases hlt : m < b
    · have e0 : m / b = 0 := Nat.div_eq_of_lt hlt
      have e1 : (((m / b : Nat) : Int) == 0) = true := by rw [e0]; rfl
      have HT := Lib.hid (HL.out.last hlt)
      clear hlt e0
      go_wp2
      generalize hW2 : wr.alloc (Obj.cells #[_] 5) = W2
      rw [(conv1 b m hk rfl wr).out W2 hW2]
      have HB2 : Hid (Below w.heap.size w W2) := Lib.hid (by rw [← hW2]; exact R1.out.alloc R1.out.size _)
      clear hW2
      have happ := S_app [digC (m % b)] ds
      go_wp2
      go_ret
      exact ⟨by rw [HT.out]; rfl, HB2.out⟩
    · have e0 : 0 < m / b := Nat.div_pos (by omega) (by omega)
      have e1 : (((m / b : Nat) : Int) == 0) = false := beq_eq_false_iff_ne.2 (by omega)
      have e2 : m / b < m := Nat.div_lt_self (by omega) (by omega)
      have HN : Hid (b ≤ m) := Lib.hid (by omega)
      have E2 := Lib.hid e2
      clear hlt e0 e2
      go_wp2
      generalize hW2 : wr.alloc (Obj.cells #[_] 5) = W2
      rw [(conv1 b m hk rfl wr).out W2 hW2]
      have HB2 : Hid (Below w.heap.size w W2) := Lib.hid (by rw [← hW2]; exact R1.out.alloc R1.out.size _)
      clear hW2
      have happ := S_app [digC (m % b)] ds
      go_wp2
      refine ⟨⟨m / b, digC (m % b) :: ds, by rw [hw64], rfl, HL.out.step HN.out hb1, by have := E2.out; omega, HB2.out⟩, by rw [hw64]; show Int.toNat ((m / b : Nat) : Int) < Int.toNat (m : Int); rw [Int.toNat_natCast, Int.toNat_natCast]; exact E2.out⟩
end Go.Proofs.YtpaplobjmmpliaaGreatDoor.Ad
namespace Go.Proofs.YtpaplobjmmpliaaGreatDoor.Ad
set_option linter.unusedVariables false
set_option linter.unusedSimpArgs false
open Go.RowKit W
theorem grp_xy {b : List UInt8} {i : Nat} {x y : Int} (hx : ((b.getD (2 * i) 0).toNat : Int) = x) (hy : ((b.getD (2 * i + 1) 0).toNat : Int) = y) : grp b i = 0 ↔ x = 0 ∧ y = 0 := by
  unfold grp; omega
set_option maxRecDepth 100000 in
set_option maxHeartbeats 4000000 in
theorem run_calls (a : Addr) (ha : a.ok) (i : Nat) (hi : i ≤ 8) (w : World) : Calls Tryz.prog 39 #[.agg a.cells, .int .i64 i] w fun e w' => e = .returned (.int .i64 (runV a.b i)) ∧ Below w.heap.size w w' := by
  go_enter Tryz.func39, Tryz.ntmps39
  go_upto_region 1 with fail
  refine wp_named fun W hW => ?_
  obtain ⟨bk, BW, sW⟩ := box1 hW
  clear hW
  go_wp2
  go_loop [5] (fun u => ∃ n : Nat, u = .int .i64 n ∧ i + n ≤ 8 ∧ runV a.b i = runV a.b (i + n) + n) (fun u => 8 - (intOf u).toNat)
  case atStart => exact ⟨0, rfl, hi, rfl⟩
  case round =>
    obtain ⟨n, rfl, hn, hr⟩ := hrel
    have HR := Lib.hid hr
    clear hr
    by_cases hlt : i + n < 8
    · have e0 : decide ((i : Int) + n < 8) = true := decide_eq_true (by omega)
      obtain ⟨x, hx⟩ : ∃ x : Int, ((a.b.getD (2 * (i + n)) 0).toNat : Int) = x := ⟨_, rfl⟩
      obtain ⟨y, hy⟩ : ∃ y : Int, ((a.b.getD (2 * (i + n) + 1) 0).toNat : Int) = y := ⟨_, rfl⟩
      have c1 := cell_b bk.out ha (2 * (i + n)) (by omega)
      have c2 := cell_b bk.out ha (2 * (i + n) + 1) (by omega)
      rw [hx] at c1
      rw [hy] at c2
      have hg := grp_xy hx hy
      by_cases hx0 : x = 0
      · by_cases hy0 : y = 0
        · have HN : Hid (runV a.b (i + n) = runV a.b (i + n + 1) + 1) := Lib.hid (runV_yes hlt (hg.2 ⟨hx0, hy0⟩))
          have e1 : (x == 0) = true := beq_iff_eq.2 hx0
          have e2 : (y == 0) = true := beq_iff_eq.2 hy0
          clear hx hy hg hx0 hy0
          go_wp2
          exact ⟨⟨n + 1, by go_num, by omega, by rw [HR.out, HN.out, show i + (n + 1) = i + n + 1 by omega]; omega⟩, by simp [intOf]; omega⟩
        · have HN : Hid (runV a.b (i + n) = 0) := Lib.hid (runV_no (fun h => hy0 (hg.1 h.2).2))
          have e1 : (x == 0) = true := beq_iff_eq.2 hx0
          have e2 : (y == 0) = false := beq_eq_false_iff_ne.2 hy0
          clear hx hy hg hx0 hy0
          go_wp2
          go_ret
          exact ⟨by rw [HR.out, HN.out, Nat.zero_add]; rfl, BW.out⟩
      · have HN : Hid (runV a.b (i + n) = 0) := Lib.hid (runV_no (fun h => hx0 (hg.1 h.2).1))
        have e1 : (x == 0) = false := beq_eq_false_iff_ne.2 hx0
        clear hx hy hg hx0
        go_wp2
        go_ret
        exact ⟨by rw [HR.out, HN.out, Nat.zero_add]; rfl, BW.out⟩
    · have HN : Hid (runV a.b (i + n) = 0) := Lib.hid (runV_no (fun h => hlt h.1))
      have e0 : decide ((i : Int) + n < 8) = false := decide_eq_false (by omega)
      clear hlt
      go_wp2
      go_ret
      exact ⟨by rw [HR.out, HN.out, Nat.zero_add]; rfl, BW.out⟩
end Go.Proofs.YtpaplobjmmpliaaGreatDoor.Ad
namespace Go.Proofs.YtpaplobjmmpliaaGreatDoor.Ad
set_option linter.unusedVariables false
set_option linter.unusedSimpArgs false
open Go.RowKit W
theorem text_is {b n : Nat} {y : Int} (hb : b = 10 ∨ b = 16) (hn : n < 65536) (hy : y = (n : Int)) (w : World) : Calls Tryz.prog 38 #[.int .i64 y, .int .i64 b] w fun e w' => e = .returned (.string (S (textB b n))) ∧ Below w.heap.size w w' := by
  subst hy; exact text_calls b n hb hn w
theorem S_colon (l : List UInt8) : S l ++ ⟨#[58]⟩ = S (l ++ [58]) := S_app l [58]
set_option maxRecDepth 100000 in
set_option maxHeartbeats 4000000 in
theorem some_calls (a : Addr) (ha : a.ok) (i n : Nat) (hn : i + n ≤ 8) (w : World) : Calls Tryz.prog 40 #[.agg a.cells, .int .i64 i, .int .i64 (i + n : Nat)] w fun e w' => e = .returned (.string (S (joinG a.b i n))) ∧ Below w.heap.size w w' := by
  obtain ⟨m, hm⟩ : ∃ m, i + n = m := ⟨_, rfl⟩
  rw [hm]
  go_enter Tryz.func40, Tryz.ntmps40
  go_upto_region 1 with fail
  refine wp_named fun W hW => ?_
  obtain ⟨bk, BW, sW⟩ := box1 hW
  clear hW
  go_wp2
  go_loopw [7, 8] (fun s u wr => ∃ k : Nat, u = .int .i64 k ∧ i ≤ k ∧ k ≤ m ∧ s = .string (S (joinG a.b i (k - i))) ∧ Below W.heap.size W wr) (fun _ u _ => 8 - (intOf u).toNat)
  case atStart => exact ⟨i, rfl, Nat.le_refl _, by omega, by rw [Nat.sub_self]; rfl, Below.refl _ _⟩
  case round =>
    obtain ⟨k, rfl, hik, hkm, rfl, hb⟩ := hrel
    have HB := Lib.hid hb
    have K0 := Lib.hid (bk.out.later HB.out (by have := sW.out; omega))
    clear hb
    by_cases hlt : k < m
    · have e0 : decide ((k : Int) < m) = true := decide_eq_true (by omega)
      have e0' : decide (k < m) = true := decide_eq_true (by omega)
      obtain ⟨x, hx⟩ : ∃ x : Int, ((a.b.getD (2 * k) 0).toNat : Int) = x := ⟨_, rfl⟩
      obtain ⟨y, hy⟩ : ∃ y : Int, ((a.b.getD (2 * k + 1) 0).toNat : Int) = y := ⟨_, rfl⟩
      have c1 : ∀ z : Later wr, z.val.cell? ⟨w.heap.size, 1 + 2 * k, none⟩ = some (.int .u8 x) := fun z => by
        have := cell_b (K0.out.later z.property K0.out.lt) ha (2 * k) (by omega)
        rwa [hx] at this
      have c2 : ∀ z : Later wr, z.val.cell? ⟨w.heap.size, 1 + (2 * k + 1), none⟩ = some (.int .u8 y) := fun z => by
        have := cell_b (K0.out.later z.property K0.out.lt) ha (2 * k + 1) (by omega)
        rwa [hy] at this
      have hx1 : 0 ≤ x := by omega
      have hx2 : x < 256 := by rw [← hx]; have := (a.b.getD (2 * k) 0).toNat_lt; omega
      have hy1 : 0 ≤ y := by omega
      have hy2 : y < 256 := by rw [← hy]; have := (a.b.getD (2 * k + 1) 0).toNat_lt; omega
      have HG : Hid (x * 256 + y = ((grp a.b k : Nat) : Int)) := Lib.hid (by unfold grp; omega)
      clear hx hy
      have hln := joinG_len a.b i (k - i)
      have hk8 : k < 8 := by omega
      have HK := Lib.hid hlt
      by_cases hki : i < k
      · have e1 : decide ((i : Int) < k) = true := decide_eq_true (by omega)
        have e1' : decide (i < k) = true := decide_eq_true (by omega)
        have HN : Hid (joinG a.b i (k + 1 - i) = joinG a.b i (k - i) ++ [58] ++ textB 16 (grp a.b k)) := Lib.hid (by
          rw [show k + 1 - i = (k - i) + 1 by omega, joinG_succ _ _ _ (by omega), show i + (k - i) = k by omega])
        obtain ⟨l, hl⟩ : ∃ l, joinG a.b i (k - i) = l := ⟨_, rfl⟩
        rw [hl] at hln HN ⊢
        have hs1 := S_colon l
        have hs2 := S_app (l ++ [58]) (textB 16 (grp a.b k))
        have ht := (textB_len16 (grp_lt a.b k)).2
        have hz1 : (S l).size ≤ 100 := by rw [S_size]; omega
        have hz2 : (S (l ++ [58])).size ≤ 100 := by rw [S_size]; simp; omega
        have hz3 : (S (textB 16 (grp a.b k))).size ≤ 100 := by rw [S_size]; omega
        clear hl hln ht hki hlt hm hn
        go_wp2
        refine region_later (by kernel_rfl) (by kernel_rfl) ?_
        repeat (first | go_big_quiet_skip | (go_big_quiet_want; first | (go_big_quiet_op; first | go_big_quiet_on | go_big_quiet_call ((go_at_call 38; exact calls_later (text_is (by decide) (grp_lt a.b k) HG.out _))))))
        refine wpQuiet_nil ?_
        intro z hz
        have HBz := Lib.hid (HB.out.trans (hz.mono HB.out.size))
        clear hz
        go_wp2
        exact ⟨⟨k + 1, by go_num, by omega, by have := HK.out; omega, by rw [HN.out]; simp, HBz.out⟩, by simp [intOf]; omega⟩
      · obtain rfl : k = i := by omega
        have e1 : decide ((k : Int) < k) = false := decide_eq_false (by omega)
        have e1' : decide (k < k) = false := decide_eq_false (by omega)
        have HN : Hid (joinG a.b k (k + 1 - k) = textB 16 (grp a.b k)) := Lib.hid (by
          rw [show k + 1 - k = 1 by omega, joinG_one])
        have HZ : Hid (S (joinG a.b k (k - k)) = ⟨#[]⟩) := Lib.hid (by rw [Nat.sub_self]; rfl)
        rw [HZ.out]
        have hs2 : (⟨#[]⟩ : ByteArray) ++ S (textB 16 (grp a.b k)) = S (textB 16 (grp a.b k)) := S_app [] _
        have hz3 : (S (textB 16 (grp a.b k))).size ≤ 100 := by rw [S_size]; have ht := (textB_len16 (grp_lt a.b k)).2; omega
        clear hln hki hlt hm hn
        go_wp2
        refine region_later (by kernel_rfl) (by kernel_rfl) ?_
        repeat (first | go_big_quiet_skip | (go_big_quiet_want; first | (go_big_quiet_op; first | go_big_quiet_on | go_big_quiet_call ((go_at_call 38; exact calls_later (text_is (by decide) (grp_lt a.b k) HG.out _))))))
        refine wpQuiet_nil ?_
        intro z hz
        have HBz := Lib.hid (HB.out.trans (hz.mono HB.out.size))
        clear hz
        go_wp2
        exact ⟨⟨k + 1, by go_num, by omega, by have := HK.out; omega, by rw [HN.out], HBz.out⟩, by simp [intOf]; omega⟩
    · have e0 : decide ((k : Int) < m) = false := decide_eq_false (by omega)
      have e0' : decide (k < m) = false := decide_eq_false (by omega)
      have HE : Hid (k - i = n) := Lib.hid (by omega)
      clear hlt hm hn
      go_wp2
      go_ret
      exact ⟨by rw [← HE.out]; rfl, (keep BW HB.out).out⟩
end Go.Proofs.YtpaplobjmmpliaaGreatDoor.Ad
namespace Go.Proofs.YtpaplobjmmpliaaGreatDoor.Ad
set_option linter.unusedVariables false
set_option linter.unusedSimpArgs false
open Go.RowKit W
theorem some_is {a : Addr} {i n : Nat} {x y : Int} (ha : a.ok) (hn : i + n ≤ 8) (hx : x = (i : Int)) (hy : y = ((i + n : Nat) : Int)) (w : World) : Calls Tryz.prog 40 #[.agg a.cells, .int .i64 x, .int .i64 y] w fun e w' => e = .returned (.string (S (joinG a.b i n))) ∧ Below w.heap.size w w' := by
  subst hx; subst hy; exact some_calls a ha i n hn w
set_option maxRecDepth 100000 in
set_option maxHeartbeats 4000000 in
theorem rprint_calls (a : Addr) (ha : a.ok) (w : World) : Calls Tryz.prog 16 #[.agg a.cells] w fun e w' => e = .returned (.string (S (printV a))) ∧ Below w.heap.size w w' := by
  obtain ⟨q, hq⟩ : ∃ q, a.valid = q := ⟨_, rfl⟩
  have HV := Lib.hid hq
  cases q
  · have HR : Hid (printV a = []) := Lib.hid (by unfold printV; rw [hq]; rfl)
    clear hq
    go_enter Tryz.func16, Tryz.ntmps16
    go_upto_region 1 with fail
    refine wp_named fun W hW => ?_
    obtain ⟨bk, BW, sW⟩ := box1 hW
    clear hW
    go_upto_region 2 with (first | (refine wpList_load_blk rfl 35 _ rfl w.heap.size 35 _ _ rfl bk.out Tryz.underlying35 rfl (by as_aux_lemma => exact szc ‹_›) ?_) | (go_at_call 37; refine (rvalid_calls a ha _).mono ?_; rintro e W2 ⟨rfl, hB⟩))
    have BW2 := keep BW hB
    clear hB
    rw [HV.out]
    go_wp2
    go_ret
    exact ⟨by rw [HR.out]; rfl, BW2.out⟩
  · by_cases h4 : a.v = 4
    · have HR : Hid (printV a = print4 a.b) := Lib.hid (by unfold printV; rw [hq, if_pos rfl, if_pos h4])
      have e4 : (a.v == 4) = true := beq_iff_eq.2 h4
      clear hq h4
      go_enter Tryz.func16, Tryz.ntmps16
      go_upto_region 1 with fail
      refine wp_named fun W hW => ?_
      obtain ⟨bk, BW, sW⟩ := box1 hW
      clear hW
      go_upto_region 2 with (first | (refine wpList_load_blk rfl 35 _ rfl w.heap.size 35 _ _ rfl bk.out Tryz.underlying35 rfl (by as_aux_lemma => exact szc ‹_›) ?_) | (go_at_call 37; refine (rvalid_calls a ha _).mono ?_; rintro e W2 ⟨rfl, hB⟩))
      have BW2 := keep BW hB
      have K0 := Lib.hid (bk.out.later hB (by have := sW.out; omega))
      clear hB
      rw [HV.out]
      have cv := cell_v K0.out
      obtain ⟨n0, hn0⟩ : ∃ n, (a.b.getD 0 0).toNat = n := ⟨_, rfl⟩
      have c0 : ∀ z : Later W2, z.val.cell? ⟨w.heap.size, 1, none⟩ = some (.int .u8 (n0 : Int)) := fun z => by
        have := cell_b (K0.out.later z.property K0.out.lt) ha 0 (by omega)
        rwa [hn0] at this
      have hb0 : n0 < 256 := by rw [← hn0]; exact (a.b.getD 0 0).toNat_lt
      have HB0 : Hid (n0 < 65536) := Lib.hid (by omega)
      obtain ⟨n1, hn1⟩ : ∃ n, (a.b.getD 1 0).toNat = n := ⟨_, rfl⟩
      have c1 : ∀ z : Later W2, z.val.cell? ⟨w.heap.size, 2, none⟩ = some (.int .u8 (n1 : Int)) := fun z => by
        have := cell_b (K0.out.later z.property K0.out.lt) ha 1 (by omega)
        rwa [hn1] at this
      have hb1 : n1 < 256 := by rw [← hn1]; exact (a.b.getD 1 0).toNat_lt
      have HB1 : Hid (n1 < 65536) := Lib.hid (by omega)
      obtain ⟨n2, hn2⟩ : ∃ n, (a.b.getD 2 0).toNat = n := ⟨_, rfl⟩
      have c2 : ∀ z : Later W2, z.val.cell? ⟨w.heap.size, 3, none⟩ = some (.int .u8 (n2 : Int)) := fun z => by
        have := cell_b (K0.out.later z.property K0.out.lt) ha 2 (by omega)
        rwa [hn2] at this
      have hb2 : n2 < 256 := by rw [← hn2]; exact (a.b.getD 2 0).toNat_lt
      have HB2 : Hid (n2 < 65536) := Lib.hid (by omega)
      obtain ⟨n3, hn3⟩ : ∃ n, (a.b.getD 3 0).toNat = n := ⟨_, rfl⟩
      have c3 : ∀ z : Later W2, z.val.cell? ⟨w.heap.size, 4, none⟩ = some (.int .u8 (n3 : Int)) := fun z => by
        have := cell_b (K0.out.later z.property K0.out.lt) ha 3 (by omega)
        rwa [hn3] at this
      have hb3 : n3 < 256 := by rw [← hn3]; exact (a.b.getD 3 0).toNat_lt
      have HB3 : Hid (n3 < 65536) := Lib.hid (by omega)
      obtain ⟨t0, ht0⟩ : ∃ t, textB 10 n0 = t := ⟨_, rfl⟩
      have zt0 : (S t0).size ≤ 300 := by rw [S_size, ← ht0]; have := textB_le 10 n0; omega
      obtain ⟨t1, ht1⟩ : ∃ t, textB 10 n1 = t := ⟨_, rfl⟩
      have zt1 : (S t1).size ≤ 300 := by rw [S_size, ← ht1]; have := textB_le 10 n1; omega
      obtain ⟨t2, ht2⟩ : ∃ t, textB 10 n2 = t := ⟨_, rfl⟩
      have zt2 : (S t2).size ≤ 300 := by rw [S_size, ← ht2]; have := textB_le 10 n2; omega
      obtain ⟨t3, ht3⟩ : ∃ t, textB 10 n3 = t := ⟨_, rfl⟩
      have zt3 : (S t3).size ≤ 300 := by rw [S_size, ← ht3]; have := textB_le 10 n3; omega
      obtain ⟨l0, hl0⟩ : ∃ l, t0 ++ [46] = l := ⟨_, rfl⟩
      have hs0 : S t0 ++ ⟨#[46]⟩ = S l0 := by rw [← hl0]; exact S_app t0 [46]
      have zs0 : (S l0).size ≤ 400 := by rw [← hs0, ByteArray.size_append]; have : (ByteArray.mk #[46]).size = 1 := rfl; omega
      obtain ⟨l1, hl1⟩ : ∃ l, l0 ++ t1 = l := ⟨_, rfl⟩
      have hs1 : S l0 ++ S t1 = S l1 := by rw [← hl1]; exact S_app l0 t1
      have zs1 : (S l1).size ≤ 800 := by rw [← hs1, ByteArray.size_append]; omega
      obtain ⟨l2, hl2⟩ : ∃ l, l1 ++ [46] = l := ⟨_, rfl⟩
      have hs2 : S l1 ++ ⟨#[46]⟩ = S l2 := by rw [← hl2]; exact S_app l1 [46]
      have zs2 : (S l2).size ≤ 1200 := by rw [← hs2, ByteArray.size_append]; have : (ByteArray.mk #[46]).size = 1 := rfl; omega
      obtain ⟨l3, hl3⟩ : ∃ l, l2 ++ t2 = l := ⟨_, rfl⟩
      have hs3 : S l2 ++ S t2 = S l3 := by rw [← hl3]; exact S_app l2 t2
      have zs3 : (S l3).size ≤ 1600 := by rw [← hs3, ByteArray.size_append]; omega
      obtain ⟨l4, hl4⟩ : ∃ l, l3 ++ [46] = l := ⟨_, rfl⟩
      have hs4 : S l3 ++ ⟨#[46]⟩ = S l4 := by rw [← hl4]; exact S_app l3 [46]
      have zs4 : (S l4).size ≤ 2000 := by rw [← hs4, ByteArray.size_append]; have : (ByteArray.mk #[46]).size = 1 := rfl; omega
      obtain ⟨l5, hl5⟩ : ∃ l, l4 ++ t3 = l := ⟨_, rfl⟩
      have hs5 : S l4 ++ S t3 = S l5 := by rw [← hl5]; exact S_app l4 t3
      have zs5 : (S l5).size ≤ 2400 := by rw [← hs5, ByteArray.size_append]; omega
      have HX : Hid (print4 a.b = l5) := Lib.hid (by rw [print4_out, hn0, hn1, hn2, hn3, ht0, ht1, ht2, ht3, hl0, hl1, hl2, hl3, hl4, hl5])
      clear hn0 hn1 hn2 hn3
      have HT0 := Lib.hid ht0
      have HT1 := Lib.hid ht1
      have HT2 := Lib.hid ht2
      have HT3 := Lib.hid ht3
      clear hl0 hl1 hl2 hl3 hl4 hl5
      go_wp2
      refine region_later (by kernel_rfl) (by kernel_rfl) ?_
      repeat (first | go_big_quiet_skip | (go_big_quiet_want; first | (go_big_quiet_op; first | go_big_quiet_on | go_big_quiet_call ((go_at_call 38; first | (with_reducible exact calls_later (text_calls 10 n0 (.inl rfl) HB0.out _)) | (with_reducible exact calls_later (text_calls 10 n1 (.inl rfl) HB1.out _)) | (with_reducible exact calls_later (text_calls 10 n2 (.inl rfl) HB2.out _)) | (with_reducible exact calls_later (text_calls 10 n3 (.inl rfl) HB3.out _)))))))
      refine wpQuiet_nil ?_
      intro z hz
      have HBz := Lib.hid (BW2.out.trans (hz.mono BW2.out.size))
      clear hz
      go_wp2
      go_ret
      exact ⟨by rw [HR.out, HX.out]; rfl, HBz.out⟩
    · have HR : Hid (printV a = print6 a.b) := Lib.hid (by unfold printV; rw [hq, if_pos rfl, if_neg h4])
      have e4 : (a.v == 4) = false := beq_eq_false_iff_ne.2 h4
      clear hq h4
      go_enter Tryz.func16, Tryz.ntmps16
      go_upto_region 1 with fail
      refine wp_named fun W hW => ?_
      obtain ⟨bk, BW, sW⟩ := box1 hW
      clear hW
      go_upto_region 2 with (first | (refine wpList_load_blk rfl 35 _ rfl w.heap.size 35 _ _ rfl bk.out Tryz.underlying35 rfl (by as_aux_lemma => exact szc ‹_›) ?_) | (go_at_call 37; refine (rvalid_calls a ha _).mono ?_; rintro e W2 ⟨rfl, hB⟩))
      have BW2 := keep BW hB
      have K2 := Lib.hid (bk.out.later hB (by have := sW.out; omega))
      have HW2 : Hid (w.heap.size < W2.heap.size) := Lib.hid K2.out.lt
      clear hB
      rw [HV.out]
      have cv := cell_v K2.out
      go_wp2
      clear cv
      go_loopw [4] (fun u wr => ∃ L : Nat, u = .int .i64 L ∧ 1 ≤ L ∧ L ≤ 8 ∧ (∀ j, j < 8 → runV a.b j ≤ L) ∧ Below W2.heap.size W2 wr) (fun u _ => (intOf u).toNat)
      case atStart => exact ⟨8, rfl, by omega, by omega, (fun j hj => by have := runV_le8 a.b j; omega), Below.refl _ _⟩
      case round =>
        obtain ⟨L, rfl, hL1, hL8, hm, hb⟩ := hrel
        have HM := Lib.hid hm
        have HB := Lib.hid hb
        have K0 := Lib.hid (K2.out.later HB.out HW2.out)
        clear hm hb
        by_cases hlt : 2 ≤ L
        · have e0 : decide ((2 : Int) ≤ L) = true := decide_eq_true (by omega)
          have e0' : decide (2 ≤ L) = true := decide_eq_true (by omega)
          obtain ⟨wo, rfl⟩ : ∃ wo, wo = wr := ⟨_, rfl⟩
          have HL := Lib.hid hlt
          clear hlt
          go_wp2
          go_loopw [5] (fun u wr => ∃ i : Nat, u = .int .i64 i ∧ i + L ≤ 9 ∧ (∀ j, j < i → runV a.b j < L) ∧ Below W2.heap.size W2 wr) (fun u _ => 9 - (intOf u).toNat)
          case atStart => exact ⟨0, rfl, by omega, (fun j hj => by omega), HB.out⟩
          case round =>
            obtain ⟨i, rfl, hi9, hj, hb⟩ := hrel
            have HJ := Lib.hid hj
            have HB := Lib.hid hb
            have K0 := Lib.hid (K2.out.later HB.out HW2.out)
            clear hj hb
            by_cases hle : i + L ≤ 8
            · have e1 : decide ((i : Int) + L ≤ 8) = true := decide_eq_true (by omega)
              have e1' : decide (i + L ≤ 8) = true := decide_eq_true (by omega)
              have hi8 : i ≤ 8 := by omega
              obtain ⟨r, hr⟩ : ∃ r, runV a.b i = r := ⟨_, rfl⟩
              have HRV := Lib.hid hr
              have hr8 : r ≤ 8 := by rw [← hr]; have := runV_le8 a.b i; omega
              by_cases hrl : L ≤ r
              · have e2 : decide ((L : Int) ≤ r) = true := decide_eq_true (by omega)
                have e2' : decide (L ≤ r) = true := decide_eq_true (by omega)
                have HP : Hid (print6 a.b = joinG a.b 0 i ++ [58, 58] ++ joinG a.b (i + L) (8 - (i + L))) := Lib.hid (by
                  have hrL : runV a.b i = L := by have := HM.out i (by omega); omega
                  have hbest := best_some HL.out (show i < 8 by omega) hrL HM.out HJ.out
                  unfold print6
                  rw [hbest]
                  exact if_neg (by have := HL.out; omega))
                have HA1 : Hid (0 + i ≤ 8) := Lib.hid (by omega)
                have HA2 : Hid ((0 : Int) = ((0 : Nat) : Int)) := Lib.hid rfl
                have HA3 : Hid ((i : Int) = ((0 + i : Nat) : Int)) := Lib.hid (by omega)
                have HB1 : Hid (i + L + (8 - (i + L)) ≤ 8) := Lib.hid (by omega)
                have HB2 : Hid ((i : Int) + L = ((i + L : Nat) : Int)) := Lib.hid (by omega)
                have HB3 : Hid ((8 : Int) = ((i + L + (8 - (i + L)) : Nat) : Int)) := Lib.hid (by omega)
                obtain ⟨p, hp⟩ : ∃ p, joinG a.b 0 i = p := ⟨_, rfl⟩
                obtain ⟨p1, hp1⟩ : ∃ p1, p ++ [58, 58] = p1 := ⟨_, rfl⟩
                obtain ⟨p2, hp2⟩ : ∃ p2, joinG a.b (i + L) (8 - (i + L)) = p2 := ⟨_, rfl⟩
                obtain ⟨p3, hp3⟩ : ∃ p3, p1 ++ p2 = p3 := ⟨_, rfl⟩
                have z0 : (S p).size ≤ 40 := by rw [S_size, ← hp]; have := joinG_len a.b 0 i; omega
                have s1 : S p ++ ⟨#[58, 58]⟩ = S p1 := by rw [← hp1]; exact S_app p [58, 58]
                have z1 : (S p1).size ≤ 50 := by rw [← s1, ByteArray.size_append]; have : (ByteArray.mk #[58, 58]).size = 2 := rfl; omega
                have z2 : (S p2).size ≤ 40 := by rw [S_size, ← hp2]; have := joinG_len a.b (i + L) (8 - (i + L)); omega
                have s3 : S p1 ++ S p2 = S p3 := by rw [← hp3]; exact S_app p1 p2
                have HX : Hid (print6 a.b = p3) := Lib.hid (by rw [HP.out, hp, hp1, hp2, hp3])
                clear hp1 hp3 hr hrl hle HP
                go_upto_region 13 with (first | (refine wpList_load_blk rfl 35 _ rfl w.heap.size 35 _ _ rfl K0.out Tryz.underlying35 rfl (by as_aux_lemma => exact szc ‹_›) ?_) | (go_at_call 39; refine (run_calls a ha i hi8 _).mono ?_; rintro e W4 ⟨rfl, hB4⟩))
                have BW4 := Lib.hid (HB.out.trans (hB4.mono HB.out.size))
                have K0 := Lib.hid (K2.out.later BW4.out HW2.out)
                clear hB4
                rw [HRV.out]
                go_wp2
                refine region_later (by kernel_rfl) (by kernel_rfl) ?_
                repeat (first | go_big_quiet_skip | (go_big_quiet_want; first | (refine quiet_load 35 _ rfl w.heap.size 35 _ _ rfl K0.out Tryz.underlying35 rfl (szc ha) ?_; simp only [Act.put, List.setIfInBounds_toArray, List.set_cons_zero, List.set_cons_succ]; go_big_quiet_on) | (go_big_quiet_op; first | go_big_quiet_on | go_big_quiet_call ((go_at_call 40; first | (with_reducible exact calls_later (some_is ha HA1.out HA2.out HA3.out _)) | (with_reducible exact calls_later (some_is ha HB1.out HB2.out HB3.out _)))))))
                refine wpQuiet_nil ?_
                intro z hz
                have HBz := Lib.hid (BW4.out.trans (hz.mono BW4.out.size))
                clear hz
                go_wp2
                go_ret
                exact ⟨by rw [HR.out, HX.out]; rfl, (keep BW2 HBz.out).out⟩
              · have e2 : decide ((L : Int) ≤ r) = false := decide_eq_false (by omega)
                have e2' : decide (L ≤ r) = false := decide_eq_false (by omega)
                have HN : Hid (runV a.b i < L) := Lib.hid (by omega)
                have HLE := Lib.hid hle
                clear hr hrl hle
                go_upto_region 13 with (first | (refine wpList_load_blk rfl 35 _ rfl w.heap.size 35 _ _ rfl K0.out Tryz.underlying35 rfl (by as_aux_lemma => exact szc ‹_›) ?_) | (go_at_call 39; refine (run_calls a ha i hi8 _).mono ?_; rintro e W4 ⟨rfl, hB4⟩))
                have BW4 := Lib.hid (HB.out.trans (hB4.mono HB.out.size))
                clear hB4
                rw [HRV.out]
                go_wp2
                exact ⟨⟨i + 1, by go_num, by have := HLE.out; omega, (fun j h => by rcases Nat.lt_or_ge j i with h1 | h1; exact HJ.out j h1; rw [show j = i by omega]; exact HN.out), BW4.out⟩, by simp [intOf]; omega⟩
            · have e1 : decide ((i : Int) + L ≤ 8) = false := decide_eq_false (by omega)
              have e1' : decide (i + L ≤ 8) = false := decide_eq_false (by omega)
              have HE : Hid (i + L = 9) := Lib.hid (by omega)
              clear hle
              go_wp2
              exact ⟨⟨L - 1, by have := HL.out; go_num, by have := HL.out; omega, by omega, (fun j h => by
                rcases Nat.lt_or_ge j i with h1 | h1
                · have := HJ.out j h1; omega
                · have := runV_le8 a.b j; have := HE.out; omega), HB.out⟩, by have := HL.out; simp [intOf]; omega⟩
        · obtain rfl : L = 1 := by omega
          have HX : Hid (print6 a.b = joinG a.b 0 8) := Lib.hid (by
            have := best_none HM.out
            unfold print6
            rw [this]
            exact if_pos rfl)
          have HA1 : Hid (0 + 8 ≤ 8) := Lib.hid (by omega)
          have HA2 : Hid ((0 : Int) = ((0 : Nat) : Int)) := Lib.hid rfl
          have HA3 : Hid ((8 : Int) = ((0 + 8 : Nat) : Int)) := Lib.hid (by omega)
          clear hlt
          go_wp2_with (first | (refine wpList_load_blk rfl 35 _ rfl w.heap.size 35 _ _ rfl K0.out Tryz.underlying35 rfl (by as_aux_lemma => exact szc ‹_›) ?_) | (go_at_call 40; refine (some_is ha HA1.out HA2.out HA3.out _).mono ?_; rintro e W4 ⟨rfl, hB4⟩))
          go_ret
          exact ⟨by rw [HR.out, HX.out]; rfl, (keep BW2 (HB.out.trans (hB4.mono HB.out.size))).out⟩
end Go.Proofs.YtpaplobjmmpliaaGreatDoor.Ad
