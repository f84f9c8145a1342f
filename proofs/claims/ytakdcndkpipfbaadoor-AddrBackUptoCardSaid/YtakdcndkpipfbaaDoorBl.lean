/- Contract of mosaicref03.some: some groups with a colon between each two. Conditions: an address has sixteen bytes. -/
import Derived.Test.YtakdcndkpipfbaaDoorBk
import Derived.Test.YtakdcndkpipfbaaDoorAn
namespace Go.Proofs.YtakdcndkpipfbaaDoor.Ad
set_option linter.unusedVariables false
set_option linter.unusedSimpArgs false
open Go.RowKit W
theorem text_is {b n : Nat} {y : Int} (hb : b = 10 ∨ b = 16) (hn : n < 65536) (hy : y = (n : Int)) (w : World) : Calls Tryd.prog 32 #[.int .i64 y, .int .i64 b] w fun e w' => e = .returned (.string (S (textB b n))) ∧ Below w.heap.size w w' := by
  subst hy; exact text_calls b n hb hn w
theorem joinG_len (b : List UInt8) (i : Nat) : ∀ n, (joinG b i n).length ≤ 5 * n
  | 0 => by simp [joinG_zero]
  | 1 => by rw [joinG_one]; have := (textB_len16 (grp_lt b i)).2; omega
  | n + 2 => by
    rw [joinG_succ _ _ _ (by omega)]
    have := joinG_len b i (n + 1)
    have := (textB_len16 (grp_lt b (i + (n + 1)))).2
    simp; omega
theorem S_colon (l : List UInt8) : S l ++ ⟨#[58]⟩ = S (l ++ [58]) := S_app l [58]
set_option maxRecDepth 100000 in
set_option maxHeartbeats 4000000 in
theorem some_calls (a : Addr) (ha : a.ok) (i n : Nat) (hn : i + n ≤ 8) (w : World) : Calls Tryd.prog 34 #[.agg a.cells, .int .i64 i, .int .i64 (i + n : Nat)] w fun e w' => e = .returned (.string (S (joinG a.b i n))) ∧ Below w.heap.size w w' := by
  obtain ⟨m, hm⟩ : ∃ m, i + n = m := ⟨_, rfl⟩
  rw [hm]
  go_enter Tryd.func34, Tryd.ntmps34
  go_upto_region 1 with fail
  refine wp_named fun W hW => ?_
  obtain ⟨bk, BW, sW⟩ := box1 hW
  clear hW
  go_wp2
  go_loopw [7, 8] (fun s u wr => ∃ k : Nat, u = .int .i64 k ∧ i ≤ k ∧ k ≤ m ∧ s = .string (S (joinG a.b i (k - i))) ∧ Below W.heap.size W wr) (fun _ u _ => 8 - (intOf u).toNat)
  case atStart => exact ⟨i, rfl, Nat.le_refl _, by omega, by rw [Nat.sub_self]; rfl, Below.refl _ _⟩
  case round =>
    obtain ⟨k, rfl, hik, hkm, rfl, hb⟩ := hrel
    have HB := Lib.hid hb
    have K0 := Lib.hid (bk.out.later HB.out (by have := sW.out; omega))
    clear hb
    by_cases hlt : k < m
    · have e0 : decide ((k : Int) < m) = true := decide_eq_true (by omega)
      have e0' : decide (k < m) = true := decide_eq_true (by omega)
      obtain ⟨x, hx⟩ : ∃ x : Int, ((a.b.getD (2 * k) 0).toNat : Int) = x := ⟨_, rfl⟩
      obtain ⟨y, hy⟩ : ∃ y : Int, ((a.b.getD (2 * k + 1) 0).toNat : Int) = y := ⟨_, rfl⟩
      have c1 : ∀ z : Later wr, z.val.cell? ⟨w.heap.size, 1 + 2 * k, none⟩ = some (.int .u8 x) := fun z => by
        have := cell_b (K0.out.later z.property K0.out.lt) ha (2 * k) (by omega)
        rwa [hx] at this
      have c2 : ∀ z : Later wr, z.val.cell? ⟨w.heap.size, 1 + (2 * k + 1), none⟩ = some (.int .u8 y) := fun z => by
        have := cell_b (K0.out.later z.property K0.out.lt) ha (2 * k + 1) (by omega)
        rwa [hy] at this
      have hx1 : 0 ≤ x := by omega
      have hx2 : x < 256 := by rw [← hx]; have := (a.b.getD (2 * k) 0).toNat_lt; omega
      have hy1 : 0 ≤ y := by omega
      have hy2 : y < 256 := by rw [← hy]; have := (a.b.getD (2 * k + 1) 0).toNat_lt; omega
      have HG : Hid (x * 256 + y = ((grp a.b k : Nat) : Int)) := Lib.hid (by unfold grp; omega)
      clear hx hy
      have hln := joinG_len a.b i (k - i)
      have hk8 : k < 8 := by omega
      have HK := Lib.hid hlt
      by_cases hki : i < k
      · have e1 : decide ((i : Int) < k) = true := decide_eq_true (by omega)
        have e1' : decide (i < k) = true := decide_eq_true (by omega)
        have HN : Hid (joinG a.b i (k + 1 - i) = joinG a.b i (k - i) ++ [58] ++ textB 16 (grp a.b k)) := Lib.hid (by
          rw [show k + 1 - i = (k - i) + 1 by omega, joinG_succ _ _ _ (by omega), show i + (k - i) = k by omega])
        obtain ⟨l, hl⟩ : ∃ l, joinG a.b i (k - i) = l := ⟨_, rfl⟩
        rw [hl] at hln HN ⊢
        have hs1 := S_colon l
        have hs2 := S_app (l ++ [58]) (textB 16 (grp a.b k))
        have ht := (textB_len16 (grp_lt a.b k)).2
        have hz1 : (S l).size ≤ 100 := by rw [S_size]; omega
        have hz2 : (S (l ++ [58])).size ≤ 100 := by rw [S_size]; simp; omega
        have hz3 : (S (textB 16 (grp a.b k))).size ≤ 100 := by rw [S_size]; omega
        clear hl hln ht hki hlt hm hn
        go_wp2
        refine region_later (by kernel_rfl) (by kernel_rfl) ?_
        repeat (first | go_big_quiet_skip | (go_big_quiet_want; first | (go_big_quiet_op; first | go_big_quiet_on | go_big_quiet_call ((go_at_call 32; exact calls_later (text_is (by decide) (grp_lt a.b k) HG.out _))))))
        refine wpQuiet_nil ?_
        intro z hz
        have HBz := Lib.hid (HB.out.trans (hz.mono HB.out.size))
        clear hz
        go_wp2
        exact ⟨⟨k + 1, by go_num, by omega, by have := HK.out; omega, by rw [HN.out]; simp, HBz.out⟩, by simp [intOf]; omega⟩
      · obtain rfl : k = i := by omega
        have e1 : decide ((k : Int) < k) = false := decide_eq_false (by omega)
        have e1' : decide (k < k) = false := decide_eq_false (by omega)
        have HN : Hid (joinG a.b k (k + 1 - k) = textB 16 (grp a.b k)) := Lib.hid (by
          rw [show k + 1 - k = 1 by omega, joinG_one])
        have HZ : Hid (S (joinG a.b k (k - k)) = ⟨#[]⟩) := Lib.hid (by rw [Nat.sub_self]; rfl)
        rw [HZ.out]
        have hs2 : (⟨#[]⟩ : ByteArray) ++ S (textB 16 (grp a.b k)) = S (textB 16 (grp a.b k)) := S_app [] _
        have hz3 : (S (textB 16 (grp a.b k))).size ≤ 100 := by rw [S_size]; have ht := (textB_len16 (grp_lt a.b k)).2; omega
        clear hln hki hlt hm hn
        go_wp2
        refine region_later (by kernel_rfl) (by kernel_rfl) ?_
        repeat (first | go_big_quiet_skip | (go_big_quiet_want; first | (go_big_quiet_op; first | go_big_quiet_on | go_big_quiet_call ((go_at_call 32; exact calls_later (text_is (by decide) (grp_lt a.b k) HG.out _))))))
        refine wpQuiet_nil ?_
        intro z hz
        have HBz := Lib.hid (HB.out.trans (hz.mono HB.out.size))
        clear hz
        go_wp2
        exact ⟨⟨k + 1, by go_num, by omega, by have := HK.out; omega, by rw [HN.out], HBz.out⟩, by simp [intOf]; omega⟩
    · have e0 : decide ((k : Int) < m) = false := decide_eq_false (by omega)
      have e0' : decide (k < m) = false := decide_eq_false (by omega)
      have HE : Hid (k - i = n) := Lib.hid (by omega)
      clear hlt hm hn
      go_wp2
      go_ret
      exact ⟨by rw [← HE.out]; rfl, (keep BW HB.out).out⟩
end Go.Proofs.YtakdcndkpipfbaaDoor.Ad
