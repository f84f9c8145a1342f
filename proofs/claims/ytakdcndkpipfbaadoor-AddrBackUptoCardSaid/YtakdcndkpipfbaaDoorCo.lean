/- Contract of the law's own hex. Conditions: the number is below 65536, at most four digits are asked. -/
import Derived.Test.YtakdcndkpipfbaaDoorBt
import Derived.Test.YtakdcndkpipfbaaDoorCl
namespace Go.Proofs.YtakdcndkpipfbaaDoor.Ad
set_option linter.unusedVariables false
set_option linter.unusedSimpArgs false
open Go.RowKit W
theorem conv_byte {x : UInt8} {y : Int} (hy : y = (x.toNat : Int)) (w : World) : Hid (∀ W2, w.alloc (.cells #[.int .u8 y] 5) = W2 → (convert 52 9 (.slice (some ⟨w.heap.size, 0, none⟩) 1 1)).run Tryd.prog W2 = .ok (.string (S [x])) W2) := Lib.hid fun W2 h2 => by
  have hb : Blk W2 w.heap.size 5 #[.int .u8 (x.toNat : Int)] := by
    rw [← h2, hy]; exact Blk.new _ _ _
  exact Lib.run_convert_whole (P := Tryd.prog) W2 52 5 9 Tryd.underlying52 Tryd.underlying5 Tryd.underlying9 w.heap.size 0 (S [x]) (one_byte hb) 1
def strLen : Value → Nat
  | .string s => s.size
  | _ => 0
/-- What is laid and what is left. -/
def LaidH (up : Bool) (N M n m : Nat) (ds : List UInt8) : Prop := hexR up N M = hexR up n m ++ ds ∧ m = M - ds.length ∧ n ≤ N
theorem LaidH.step {up : Bool} {N M n m : Nat} {ds : List UInt8} (h : LaidH up N M n m ds) (hz : ¬ (n = 0 ∧ m = 0)) : LaidH up N M (n / 16) (m - 1) (dig up (n % 16) :: ds) := by
  obtain ⟨h1, h2, h3⟩ := h
  refine ⟨?_, ?_, ?_⟩
  · rw [h1, hexR_more up hz]; simp
  · simp; omega
  · have := Nat.div_le_self n 16; omega
theorem LaidH.short {up : Bool} {N M n m : Nat} {ds : List UInt8} (h : LaidH up N M n m ds) (hN : N < 65536) (hM : M ≤ 4) : ds.length ≤ 4 := by
  have h1 := hexR_len up 4 N M (by omega)
  rw [h.1] at h1
  simp at h1; omega
theorem tmod16 {n d : Nat} (h : n % 16 = d) : (n : Int).tmod 16 = (d : Int) := by rw [Int.tmod_eq_emod_of_nonneg (by omega), ← h]; rfl
theorem tdiv16 (n : Nat) : (n : Int).tdiv 16 = ((n / 16 : Nat) : Int) := by rw [Int.tdiv_eq_ediv_of_nonneg (by omega)]; rfl
theorem wrap16 {n : Nat} (h : n < 65536) : wrap64 ((n : Int) / 16) = ((n / 16 : Nat) : Int) := by
  have e : ((n : Int) / 16) = ((n / 16 : Nat) : Int) := rfl
  have h1 := Nat.div_le_self n 16
  rw [e]
  obtain ⟨q, hq⟩ : ∃ q, n / 16 = q := ⟨_, rfl⟩
  rw [hq] at h1 ⊢
  unfold wrap64; omega
theorem size_ok (ds : List UInt8) (h : ds.length ≤ 4) (c : UInt8) : ¬ 9223372036854775807 < (S [c]).size + (S ds).size := by rw [S_size, S_size]; simp; omega
theorem dig_lo (up : Bool) {d : Nat} (h : d ≤ 9) : ((dig up d).toNat : Int) = 48 + d := by
  have : ∀ (up : Bool) (d : Fin 10), ((dig up d.val).toNat : Int) = 48 + d.val := by decide +kernel
  exact this up ⟨d, by omega⟩
theorem dig_mid {d : Nat} (h1 : 9 < d) (h : d < 16) : ((dig false d).toNat : Int) = 87 + d := by
  have : ∀ (d : Fin 16), 9 < d.val → ((dig false d.val).toNat : Int) = 87 + d.val := by decide +kernel
  exact this ⟨d, h⟩ h1
theorem dig_hi {d : Nat} (h1 : 9 < d) (h : d < 16) : ((dig true d).toNat : Int) = 55 + d := by
  have : ∀ (d : Fin 16), 9 < d.val → ((dig true d.val).toNat : Int) = 55 + d.val := by decide +kernel
  exact this ⟨d, h⟩ h1
set_option maxRecDepth 100000 in
set_option maxHeartbeats 4000000 in
theorem hex_calls (N M : Nat) (up : Bool) (hN : N < 65536) (hM : M ≤ 4) (w : World) : Calls Tryd.prog 42 #[.int .i64 N, .int .i64 M, .bool up] w fun e w' => e = .returned (.string (S (hexR up N M))) ∧ Below w.heap.size w w' := by
  go_enter Tryd.func42, Tryd.ntmps42
  go_wp2
  go_loopw [0, 7] (fun u t wr => ∃ (n m : Nat) (ds : List UInt8), u = .int .i64 n ∧ t = .string (S ds) ∧ LaidH up N M n m ds ∧ Below w.heap.size w wr) (fun u t _ => (intOf u).toNat + (4 - strLen t))
  case atStart => exact ⟨N, M, [], rfl, rfl, ⟨by simp, by simp, Nat.le_refl _⟩, Below.refl _ _⟩
  case round =>
    obtain ⟨n, m, ds, rfl, rfl, hl, r1⟩ := hrel
    have R1 := Lib.hid r1
    have HL := Lib.hid hl
    have hds := hl.short hN hM
    have HML := Lib.hid hl.2.1
    have hn6 : n < 65536 := Nat.lt_of_le_of_lt hl.2.2 hN
    clear r1 hl
    have hz1 : (S ds).size = ds.length := S_size ds
    have HDL := Lib.hid (size_ok ds hds)
    obtain ⟨d, hd⟩ : ∃ d, n % 16 = d := ⟨_, rfl⟩
    have hd16 : d < 16 := by omega
    have hr := tmod16 hd
    have hq := tdiv16 n
    have hw64 := wrap16 hn6
    have HD := Lib.hid hd
    clear hd
    by_cases hn0 : 0 < n
    · have e0 : decide ((0 : Int) < (n : Int)) = true := decide_eq_true (by omega)
      have e0' : decide (0 < n) = true := decide_eq_true hn0
      have HZ : Hid (¬ (n = 0 ∧ m = 0)) := Lib.hid (by omega)
      have HN := Lib.hid hn0
      have HL2 := Lib.hid (HL.out.step HZ.out)
      by_cases hd9 : d ≤ 9
      · have e1 : decide ((9 : Int) < (d : Int)) = false := decide_eq_false (by omega)
        have e1' : decide (9 < d) = false := decide_eq_false (by omega)
        have HDG := Lib.hid (dig_lo up hd9)
        clear hd9 hn0
        go_wp2
        generalize hW2 : wr.alloc (Obj.cells #[_] 5) = W2
        rw [(conv_byte (x := dig up d) (by rw [HDG.out]; try omega) wr).out W2 hW2]
        have HB2 : Hid (Below w.heap.size w W2) := Lib.hid (by rw [← hW2]; exact R1.out.alloc R1.out.size _)
        clear hW2
        have hd1 := HDL.out (dig up d)
        have happ := S_app [dig up d] ds
        go_wp2
        refine ⟨⟨n / 16, m - 1, dig up d :: ds, rfl, rfl, by have := HL2.out; rwa [HD.out] at this, HB2.out⟩, ?_⟩
        show Int.toNat ((n / 16 : Nat) : Int) + (4 - (S (_ :: ds)).size) < Int.toNat (n : Int) + (4 - (S ds).size); rw [S_size, S_size, Int.toNat_natCast, Int.toNat_natCast]; have := Nat.div_lt_self (show 0 < n from HN.out) (show 1 < 16 by omega); simp; omega
      · have e1 : decide ((9 : Int) < (d : Int)) = true := decide_eq_true (by omega)
        have e1' : decide (9 < d) = true := decide_eq_true (by omega)
        cases up
        · have HDG := Lib.hid (dig_mid (by omega) hd16)
          clear hd9 hn0
          go_wp2
          generalize hW2 : wr.alloc (Obj.cells #[_] 5) = W2
          rw [(conv_byte (x := dig false d) (by rw [HDG.out]; try omega) wr).out W2 hW2]
          have HB2 : Hid (Below w.heap.size w W2) := Lib.hid (by rw [← hW2]; exact R1.out.alloc R1.out.size _)
          clear hW2
          have hd1 := HDL.out (dig false d)
          have happ := S_app [dig false d] ds
          go_wp2
          refine ⟨⟨n / 16, m - 1, dig false d :: ds, rfl, rfl, by have := HL2.out; rwa [HD.out] at this, HB2.out⟩, ?_⟩
          show Int.toNat ((n / 16 : Nat) : Int) + (4 - (S (_ :: ds)).size) < Int.toNat (n : Int) + (4 - (S ds).size); rw [S_size, S_size, Int.toNat_natCast, Int.toNat_natCast]; have := Nat.div_lt_self (show 0 < n from HN.out) (show 1 < 16 by omega); simp; omega
        · have HDG := Lib.hid (dig_hi (by omega) hd16)
          clear hd9 hn0
          go_wp2
          generalize hW2 : wr.alloc (Obj.cells #[_] 5) = W2
          rw [(conv_byte (x := dig true d) (by rw [HDG.out]; try omega) wr).out W2 hW2]
          have HB2 : Hid (Below w.heap.size w W2) := Lib.hid (by rw [← hW2]; exact R1.out.alloc R1.out.size _)
          clear hW2
          have hd1 := HDL.out (dig true d)
          have happ := S_app [dig true d] ds
          go_wp2
          refine ⟨⟨n / 16, m - 1, dig true d :: ds, rfl, rfl, by have := HL2.out; rwa [HD.out] at this, HB2.out⟩, ?_⟩
          show Int.toNat ((n / 16 : Nat) : Int) + (4 - (S (_ :: ds)).size) < Int.toNat (n : Int) + (4 - (S ds).size); rw [S_size, S_size, Int.toNat_natCast, Int.toNat_natCast]; have := Nat.div_lt_self (show 0 < n from HN.out) (show 1 < 16 by omega); simp; omega
    · obtain rfl : n = 0 := by omega
      obtain rfl : d = 0 := by have := HD.out; omega
      have e0 : decide ((0 : Int) < ((0 : Nat) : Int)) = false := rfl
      by_cases hlm : ds.length < M
      · have e1 : decide ((ds.length : Int) < (M : Int)) = true := decide_eq_true (by omega)
        have e1' : decide (ds.length < M) = true := decide_eq_true (by omega)
        have HZ : Hid (¬ (0 = 0 ∧ m = 0)) := Lib.hid (by have := HML.out; omega)
        have HL2 := Lib.hid (HL.out.step HZ.out)
        have HDG := Lib.hid (dig_lo up (show 0 ≤ 9 by omega))
        have HLM := Lib.hid hlm
        clear hlm hn0
        go_wp2
        generalize hW2 : wr.alloc (Obj.cells #[_] 5) = W2
        rw [(conv_byte (x := dig up 0) (by rw [HDG.out]; try omega) wr).out W2 hW2]
        have HB2 : Hid (Below w.heap.size w W2) := Lib.hid (by rw [← hW2]; exact R1.out.alloc R1.out.size _)
        clear hW2
        have hd1 := HDL.out (dig up 0)
        have happ := S_app [dig up 0] ds
        go_wp2
        refine ⟨⟨0 / 16, m - 1, dig up 0 :: ds, rfl, rfl, HL2.out, HB2.out⟩, ?_⟩
        show Int.toNat ((0 / 16 : Nat) : Int) + (4 - (S (_ :: ds)).size) < Int.toNat ((0 : Nat) : Int) + (4 - (S ds).size); rw [S_size, S_size]; have := HLM.out; simp; omega
      · have e1 : decide ((ds.length : Int) < (M : Int)) = false := decide_eq_false (by omega)
        have e1' : decide (ds.length < M) = false := decide_eq_false (by omega)
        have HE : Hid (hexR up N M = ds) := Lib.hid (by
          have h0 : m = 0 := by have := HML.out; omega
          have := HL.out.1; rwa [h0, hexR_zero, List.nil_append] at this)
        clear hlm hn0
        go_wp2
        go_ret
        exact ⟨by rw [HE.out]; rfl, R1.out⟩
end Go.Proofs.YtakdcndkpipfbaaDoor.Ad
