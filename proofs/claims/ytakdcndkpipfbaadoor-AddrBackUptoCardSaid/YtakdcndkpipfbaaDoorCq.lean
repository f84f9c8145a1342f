/- Contract of the law's own long. Conditions: an address has sixteen bytes, at most four digits are asked. -/
import Derived.Test.YtakdcndkpipfbaaDoorCp
import Derived.Test.YtakdcndkpipfbaaDoorCo
import Derived.Deep.CutBlock
import Derived.Deep.DeepCutAuto
namespace Go.Proofs.YtakdcndkpipfbaaDoor.Ad
set_option linter.unusedVariables false
set_option linter.unusedSimpArgs false
open Go.RowKit W
theorem hexT_is {a : Addr} {T : Nat → List UInt8} {up : Bool} {k M : Nat} {y : Int} (hy : y = ((grp a.b k : Nat) : Int)) (hT : ∀ k, T k = hexR up (grp a.b k) M) (hn : grp a.b k < 65536) (hM : M ≤ 4) (w : World) : Calls Tryd.prog 42 #[.int .i64 y, .int .i64 M, .bool up] w fun e w' => e = .returned (.string (S (T k))) ∧ Below w.heap.size w w' := by
  subst hy; rw [hT]; exact hex_calls _ M up hn hM w
theorem S_colons (l : List UInt8) : S l ++ ⟨#[58, 58]⟩ = S (l ++ [58, 58]) := S_app l [58, 58]
set_option maxRecDepth 100000 in
set_option maxHeartbeats 4000000 in
theorem long_calls (a : Addr) (ha : a.ok) (M f m : Nat) (up : Bool) (hM : M ≤ 4) (hf : f < 8) (hm : m ≤ 8) (w : World) : Calls Tryd.prog 24 #[.agg a.cells, .int .i64 M, .bool up, .int .i64 f, .int .i64 m] w fun e w' => e = .returned (.string (S (longT (fun k => hexR up (grp a.b k) M) f (min (runV a.b f) m) 8))) ∧ Below w.heap.size w w' := by
  obtain ⟨T, hT⟩ : ∃ T, (fun k => hexR up (grp a.b k) M) = T := ⟨_, rfl⟩
  have HT : Hid (∀ k, T k = hexR up (grp a.b k) M) := Lib.hid fun k => by rw [← hT]
  have HTL : Hid (∀ k, (T k).length ≤ 4) := Lib.hid fun k => by
    rw [HT.out]; have := hexR_len up 4 (grp a.b k) M (grp_lt a.b k); omega
  rw [hT]
  obtain ⟨L, hL⟩ : ∃ L, min (runV a.b f) m = L := ⟨_, rfl⟩
  rw [hL]
  have hfL : f + L ≤ 8 := by have := runV_le8 a.b f; omega
  have HL := Lib.hid hL
  clear hL hT
  go_enter Tryd.func24, Tryd.ntmps24
  go_upto_region 1 with fail
  refine wp_named fun W hW => ?_
  obtain ⟨bk, BW, sW⟩ := box1 hW
  clear hW
  go_upto_block 0 with fail
  go_cut [12] from 14 to 45 (fun v wx => v = .int .i64 L ∧ W = wx)
  case first =>
    go_wp2_with fail
    go_loop [12] (fun u => ∃ n : Nat, u = .int .i64 n ∧ f + n ≤ 8 ∧ n ≤ m ∧ runV a.b f = runV a.b (f + n) + n) (fun u => 8 - (intOf u).toNat)
    case atStart => exact ⟨0, rfl, by omega, by omega, rfl⟩
    case round =>
      obtain ⟨n, rfl, hn, hnm, hr⟩ := hrel
      have HR := Lib.hid hr
      clear hr
      by_cases hlt : f + n < 8
      · have e0 : decide ((f : Int) + n < 8) = true := decide_eq_true (by omega)
        by_cases hlm : n < m
        · have e3 : decide ((n : Int) < (m : Int)) = true := decide_eq_true (by omega)
          have e3' : decide (n < m) = true := decide_eq_true (by omega)
          obtain ⟨x, hx⟩ : ∃ x : Int, ((a.b.getD (2 * (f + n)) 0).toNat : Int) = x := ⟨_, rfl⟩
          obtain ⟨y, hy⟩ : ∃ y : Int, ((a.b.getD (2 * (f + n) + 1) 0).toNat : Int) = y := ⟨_, rfl⟩
          have c1 := cell_b bk.out ha (2 * (f + n)) (by omega)
          have c2 := cell_b bk.out ha (2 * (f + n) + 1) (by omega)
          rw [hx] at c1
          rw [hy] at c2
          have hg := grp_xy hx hy
          by_cases hx0 : x = 0
          · by_cases hy0 : y = 0
            · have HN : Hid (runV a.b (f + n) = runV a.b (f + n + 1) + 1) := Lib.hid (runV_yes hlt (hg.2 ⟨hx0, hy0⟩))
              have e1 : (x == 0) = true := beq_iff_eq.2 hx0
              have e2 : (y == 0) = true := beq_iff_eq.2 hy0
              clear hx hy hg hx0 hy0
              go_wp2
              exact ⟨⟨n + 1, by go_num, by omega, by omega, by rw [HR.out, HN.out, show f + (n + 1) = f + n + 1 by omega]; omega⟩, by simp [intOf]; omega⟩
            · have HN : Hid (runV a.b (f + n) = 0) := Lib.hid (runV_no (fun h => hy0 (hg.1 h.2).2))
              have HE : Hid (L = n) := Lib.hid (by have := HR.out; have := HN.out; have := HL.out; omega)
              have e1 : (x == 0) = true := beq_iff_eq.2 hx0
              have e2 : (y == 0) = false := beq_eq_false_iff_ne.2 hy0
              clear hx hy hg hx0 hy0
              go_wp2
              go_meet
              case rel => exact ⟨by rw [HE.out], rfl⟩
          · have HN : Hid (runV a.b (f + n) = 0) := Lib.hid (runV_no (fun h => hx0 (hg.1 h.2).1))
            have HE : Hid (L = n) := Lib.hid (by have := HR.out; have := HN.out; have := HL.out; omega)
            have e1 : (x == 0) = false := beq_eq_false_iff_ne.2 hx0
            clear hx hy hg hx0
            go_wp2
            go_meet
            case rel => exact ⟨by rw [HE.out], rfl⟩
        · have HE : Hid (L = n) := Lib.hid (by have := HR.out; have := HL.out; omega)
          have e3 : decide ((n : Int) < (m : Int)) = false := decide_eq_false (by omega)
          have e3' : decide (n < m) = false := decide_eq_false (by omega)
          clear hlm
          go_wp2
          go_meet
          case rel => exact ⟨by rw [HE.out], rfl⟩
      · have HN : Hid (runV a.b (f + n) = 0) := Lib.hid (runV_no (fun h => hlt h.1))
        have HE : Hid (L = n) := Lib.hid (by have := HR.out; have := HN.out; have := HL.out; omega)
        have e0 : decide ((f : Int) + n < 8) = false := decide_eq_false (by omega)
        clear hlt
        go_wp2
        go_meet
        case rel => exact ⟨by rw [HE.out], rfl⟩
  case rest =>
  obtain ⟨rfl, rfl⟩ := hcut
  clear HL
  go_wp2
  go_loopw [11, 13] (fun s u wr => ∃ k : Nat, u = .int .i64 k ∧ k ≤ 8 ∧ (L = 0 ∨ k ≤ f ∨ f + L ≤ k) ∧ s = .string (S (longT T f L k)) ∧ Below W.heap.size W wr) (fun _ u _ => 8 - (intOf u).toNat)
  case atStart => exact ⟨0, rfl, by omega, by omega, by rw [longT_zero]; rfl, Below.refl _ _⟩
  case round =>
    obtain ⟨k, rfl, hk8, hkr, rfl, hb⟩ := hrel
    have HB := Lib.hid hb
    have K0 := Lib.hid (bk.out.later HB.out (by have := sW.out; omega))
    clear hb
    by_cases hlt : k < 8
    · have e0 : decide ((k : Int) < 8) = true := decide_eq_true (by omega)
      have hln := longT_len HTL.out hkr
      by_cases hj : 0 < L ∧ k = f
      · obtain ⟨h2, rfl⟩ := hj
        have e1 : ((k:Int) == (k:Int)) = true := beq_iff_eq.2 (by rfl)
        have e1n : (k == k) = true := beq_iff_eq.2 (by rfl)
        have e2 : decide ((0:Int) < (L:Int)) = true := decide_eq_true (by omega)
        have e2n : decide (0 < L) = true := decide_eq_true (by omega)
        have HJ := Lib.hid (longT_jump T k h2)
        have hs := S_colons (longT T k L k)
        have hz1 : (S (longT T k L k)).size ≤ 100 := by rw [S_size]; omega
        have H2 := Lib.hid h2
        clear h2 hln hkr
        go_wp2
        exact ⟨⟨k + L, by go_num, by omega, by omega, by rw [HJ.out], HB.out⟩, by have := H2.out; simp [intOf]; omega⟩
      · have hkr2 : L = 0 ∨ k < f ∨ f + L ≤ k := by omega
        have HK2 := Lib.hid hkr2
        have HJN := Lib.hid hj
        have HLT := Lib.hid hlt
        obtain ⟨x, hx⟩ : ∃ x : Int, ((a.b.getD (2 * k) 0).toNat : Int) = x := ⟨_, rfl⟩
        obtain ⟨y, hy⟩ : ∃ y : Int, ((a.b.getD (2 * k + 1) 0).toNat : Int) = y := ⟨_, rfl⟩
        have c1 : ∀ z : Later wr, z.val.cell? ⟨w.heap.size, 1 + 2 * k, none⟩ = some (.int .u8 x) := fun z => by
          have := cell_b (K0.out.later z.property K0.out.lt) ha (2 * k) (by omega)
          rwa [hx] at this
        have c2 : ∀ z : Later wr, z.val.cell? ⟨w.heap.size, 1 + (2 * k + 1), none⟩ = some (.int .u8 y) := fun z => by
          have := cell_b (K0.out.later z.property K0.out.lt) ha (2 * k + 1) (by omega)
          rwa [hy] at this
        have hx1 : 0 ≤ x := by omega
        have hx2 : x < 256 := by rw [← hx]; have := (a.b.getD (2 * k) 0).toNat_lt; omega
        have hy1 : 0 ≤ y := by omega
        have hy2 : y < 256 := by rw [← hy]; have := (a.b.getD (2 * k + 1) 0).toNat_lt; omega
        have HG : Hid (x * 256 + y = ((grp a.b k : Nat) : Int)) := Lib.hid (by unfold grp; omega)
        clear hx hy
        go_upto_region 8 with fail
        go_cut [56] from 46 to 98 (fun v wx => v = .bool false ∧ wr = wx)
        case first =>
          by_cases h1 : k = f
          · have h2 : ¬ 0 < L := fun h => hj ⟨h, h1⟩
            have e1 : ((k:Int) == (f:Int)) = true := beq_iff_eq.2 (by omega)
            have e1n : (k == f) = true := beq_iff_eq.2 (by omega)
            have e2 : decide ((0:Int) < (L:Int)) = false := decide_eq_false (by omega)
            have e2n : decide (0 < L) = false := decide_eq_false (by omega)
            clear h1 h2 hj hkr hkr2
            go_wp2
            go_meet
            case rel => exact ⟨rfl, rfl⟩
          · skip
            have e1 : ((k:Int) == (f:Int)) = false := beq_eq_false_iff_ne.2 (by omega)
            have e1n : (k == f) = false := beq_eq_false_iff_ne.2 (by omega)
            clear h1 hj hkr hkr2
            go_wp2
            go_meet
            case rel => exact ⟨rfl, rfl⟩
        case rest =>
        obtain ⟨rfl, rfl⟩ := hcut
        go_upto_region 11 with fail
        go_cut [76] from 46 to 98 (fun v wx => v = .bool (decide (col f L k)) ∧ wr = wx)
        case first =>
          by_cases h0 : 0 < k
          · skip
            have e1 : decide ((0:Int) < (k:Int)) = true := decide_eq_true (by omega)
            have e1n : decide (0 < k) = true := decide_eq_true (by omega)
            by_cases h2 : 0 < L
            · skip
              have e2 : decide ((0:Int) < (L:Int)) = true := decide_eq_true (by omega)
              have e2n : decide (0 < L) = true := decide_eq_true (by omega)
              by_cases h3 : k = f + L
              · have HC : Hid (decide (col f L k) = false) := Lib.hid (decide_eq_false (by unfold col; omega))
                have e3 : ((k:Int) == ((f:Int) + (L:Int))) = true := beq_iff_eq.2 (by omega)
                have e3n : (k == (f + L)) = true := beq_iff_eq.2 (by omega)
                clear h0 h2 h3 hj hkr hkr2
                go_wp2
                go_meet
                case rel => exact ⟨by rw [HC.out], rfl⟩
              · have HC : Hid (decide (col f L k) = true) := Lib.hid (decide_eq_true (by unfold col; omega))
                have e3 : ((k:Int) == ((f:Int) + (L:Int))) = false := beq_eq_false_iff_ne.2 (by omega)
                have e3n : (k == (f + L)) = false := beq_eq_false_iff_ne.2 (by omega)
                clear h0 h2 h3 hj hkr hkr2
                go_wp2
                go_meet
                case rel => exact ⟨by rw [HC.out], rfl⟩
            · have HC : Hid (decide (col f L k) = true) := Lib.hid (decide_eq_true (by unfold col; omega))
              have e2 : decide ((0:Int) < (L:Int)) = false := decide_eq_false (by omega)
              have e2n : decide (0 < L) = false := decide_eq_false (by omega)
              clear h0 h2 hj hkr hkr2
              go_wp2
              go_meet
              case rel => exact ⟨by rw [HC.out], rfl⟩
          · have HC : Hid (decide (col f L k) = false) := Lib.hid (decide_eq_false (by unfold col; omega))
            have e1 : decide ((0:Int) < (k:Int)) = false := decide_eq_false (by omega)
            have e1n : decide (0 < k) = false := decide_eq_false (by omega)
            clear h0 hj hkr hkr2
            go_wp2
            go_meet
            case rel => exact ⟨by rw [HC.out], rfl⟩
        case rest =>
        obtain ⟨rfl, rfl⟩ := hcut
        have HTl := Lib.hid (HTL.out k)
        by_cases hc : col f L k
        · have HN := Lib.hid (longT_colon T hc hkr2)
          have ed : decide (col f L k) = true := decide_eq_true hc
          rw [ed]
          obtain ⟨l, hl⟩ : ∃ l, longT T f L k = l := ⟨_, rfl⟩
          rw [hl] at hln HN ⊢
          have hs1 := S_colon l
          have hs2 := S_app (l ++ [58]) (T k)
          have hz1 : (S l).size ≤ 100 := by rw [S_size]; omega
          have hz2 : (S (l ++ [58])).size ≤ 100 := by rw [S_size]; simp; omega
          have hz3 : (S (T k)).size ≤ 100 := by rw [S_size]; have := HTl.out; omega
          clear hl hln ed hc hj hkr hkr2
          go_wp2
          refine region_later (by kernel_rfl) (by kernel_rfl) ?_
          repeat (first | go_big_quiet_skip | (go_big_quiet_want; first | (go_big_quiet_op; first | go_big_quiet_on | go_big_quiet_call ((go_at_call 42; exact calls_later (hexT_is HG.out HT.out (grp_lt a.b k) hM _))))))
          refine wpQuiet_nil ?_
          intro z hz
          have HBz := Lib.hid (HB.out.trans (hz.mono HB.out.size))
          clear hz
          go_wp2
          exact ⟨⟨k + 1, by go_num, by have := HLT.out; omega, by have := HK2.out; have := HJN.out; omega, by rw [HN.out]; try simp, HBz.out⟩, by have := HLT.out; simp [intOf]; omega⟩
        · have HN := Lib.hid (longT_plain T hc hkr2)
          have ed : decide (col f L k) = false := decide_eq_false hc
          rw [ed]
          obtain ⟨l, hl⟩ : ∃ l, longT T f L k = l := ⟨_, rfl⟩
          rw [hl] at hln HN ⊢
          have hs2 := S_app l (T k)
          have hz1 : (S l).size ≤ 100 := by rw [S_size]; omega
          have hz3 : (S (T k)).size ≤ 100 := by rw [S_size]; have := HTl.out; omega
          clear hl hln ed hc hj hkr hkr2
          go_wp2
          refine region_later (by kernel_rfl) (by kernel_rfl) ?_
          repeat (first | go_big_quiet_skip | (go_big_quiet_want; first | (go_big_quiet_op; first | go_big_quiet_on | go_big_quiet_call ((go_at_call 42; exact calls_later (hexT_is HG.out HT.out (grp_lt a.b k) hM _))))))
          refine wpQuiet_nil ?_
          intro z hz
          have HBz := Lib.hid (HB.out.trans (hz.mono HB.out.size))
          clear hz
          go_wp2
          exact ⟨⟨k + 1, by go_num, by have := HLT.out; omega, by have := HK2.out; have := HJN.out; omega, by rw [HN.out]; try simp, HBz.out⟩, by have := HLT.out; simp [intOf]; omega⟩
    · obtain rfl : k = 8 := by omega
      clear hlt
      go_wp2
      go_ret
      exact ⟨rfl, (keep BW HB.out).out⟩
end Go.Proofs.YtakdcndkpipfbaaDoor.Ad
