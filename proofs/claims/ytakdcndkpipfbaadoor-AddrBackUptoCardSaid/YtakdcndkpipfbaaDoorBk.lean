/- Contract of mosaicref03.run: how many groups are 0. Conditions: an address has sixteen bytes. -/
import Derived.Test.YtakdcndkpipfbaaDoorBi
import Derived.Test.YtakdcndkpipfbaaDoorBj
namespace Go.Proofs.YtakdcndkpipfbaaDoor.Ad
set_option linter.unusedVariables false
set_option linter.unusedSimpArgs false
open Go.RowKit W
theorem grp_xy {b : List UInt8} {i : Nat} {x y : Int} (hx : ((b.getD (2 * i) 0).toNat : Int) = x) (hy : ((b.getD (2 * i + 1) 0).toNat : Int) = y) : grp b i = 0 ↔ x = 0 ∧ y = 0 := by
  unfold grp; omega
set_option maxRecDepth 100000 in
set_option maxHeartbeats 4000000 in
theorem run_calls (a : Addr) (ha : a.ok) (i : Nat) (hi : i ≤ 8) (w : World) : Calls Tryd.prog 33 #[.agg a.cells, .int .i64 i] w fun e w' => e = .returned (.int .i64 (runV a.b i)) ∧ Below w.heap.size w w' := by
  go_enter Tryd.func33, Tryd.ntmps33
  go_upto_region 1 with fail
  refine wp_named fun W hW => ?_
  obtain ⟨bk, BW, sW⟩ := box1 hW
  clear hW
  go_wp2
  go_loop [5] (fun u => ∃ n : Nat, u = .int .i64 n ∧ i + n ≤ 8 ∧ runV a.b i = runV a.b (i + n) + n) (fun u => 8 - (intOf u).toNat)
  case atStart => exact ⟨0, rfl, hi, rfl⟩
  case round =>
    obtain ⟨n, rfl, hn, hr⟩ := hrel
    have HR := Lib.hid hr
    clear hr
    by_cases hlt : i + n < 8
    · have e0 : decide ((i : Int) + n < 8) = true := decide_eq_true (by omega)
      obtain ⟨x, hx⟩ : ∃ x : Int, ((a.b.getD (2 * (i + n)) 0).toNat : Int) = x := ⟨_, rfl⟩
      obtain ⟨y, hy⟩ : ∃ y : Int, ((a.b.getD (2 * (i + n) + 1) 0).toNat : Int) = y := ⟨_, rfl⟩
      have c1 := cell_b bk.out ha (2 * (i + n)) (by omega)
      have c2 := cell_b bk.out ha (2 * (i + n) + 1) (by omega)
      rw [hx] at c1
      rw [hy] at c2
      have hg := grp_xy hx hy
      by_cases hx0 : x = 0
      · by_cases hy0 : y = 0
        · have HN : Hid (runV a.b (i + n) = runV a.b (i + n + 1) + 1) := Lib.hid (runV_yes hlt (hg.2 ⟨hx0, hy0⟩))
          have e1 : (x == 0) = true := beq_iff_eq.2 hx0
          have e2 : (y == 0) = true := beq_iff_eq.2 hy0
          clear hx hy hg hx0 hy0
          go_wp2
          exact ⟨⟨n + 1, by go_num, by omega, by rw [HR.out, HN.out, show i + (n + 1) = i + n + 1 by omega]; omega⟩, by simp [intOf]; omega⟩
        · have HN : Hid (runV a.b (i + n) = 0) := Lib.hid (runV_no (fun h => hy0 (hg.1 h.2).2))
          have e1 : (x == 0) = true := beq_iff_eq.2 hx0
          have e2 : (y == 0) = false := beq_eq_false_iff_ne.2 hy0
          clear hx hy hg hx0 hy0
          go_wp2
          go_ret
          exact ⟨by rw [HR.out, HN.out, Nat.zero_add]; rfl, BW.out⟩
      · have HN : Hid (runV a.b (i + n) = 0) := Lib.hid (runV_no (fun h => hx0 (hg.1 h.2).1))
        have e1 : (x == 0) = false := beq_eq_false_iff_ne.2 hx0
        clear hx hy hg hx0
        go_wp2
        go_ret
        exact ⟨by rw [HR.out, HN.out, Nat.zero_add]; rfl, BW.out⟩
    · have HN : Hid (runV a.b (i + n) = 0) := Lib.hid (runV_no (fun h => hlt h.1))
      have e0 : decide ((i : Int) + n < 8) = false := decide_eq_false (by omega)
      clear hlt
      go_wp2
      go_ret
      exact ⟨by rw [HR.out, HN.out, Nat.zero_add]; rfl, BW.out⟩
end Go.Proofs.YtakdcndkpipfbaaDoor.Ad
