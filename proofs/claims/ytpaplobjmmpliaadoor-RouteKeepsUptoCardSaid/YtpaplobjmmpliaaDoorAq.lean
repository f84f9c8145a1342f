/- Contracts of the reference's digit, number, has, pieces. Conditions: a text is shorter than 2^32. -/
import Derived.Test.YtpaplobjmmpliaaDoorAp
import Derived.Test.YtpaplobjmmpliaaDoorAo
import Derived.Laws.AppendOwn
namespace Go.Proofs.YtpaplobjmmpliaaDoor.Ad
set_option linter.unusedVariables false
set_option linter.unusedSimpArgs false
open Go.RowKit W
set_option maxRecDepth 100000 in
set_option maxHeartbeats 2000000 in
theorem digit_calls (n : Int) (h0 : 0 ≤ n) (h1 : n ≤ 255) (w : World) : Calls Tryd.prog 111 #[.int .u8 n] w fun e w' => e = .returned (.int .i64 (digitI n)) ∧ w = w' := by
  by_cases a1 : 48 ≤ n
  · have e1 : decide (48 ≤ n) = true := decide_eq_true a1
    by_cases a2 : n ≤ 57
    · have e2 : decide (n ≤ 57) = true := decide_eq_true a2
      have HR : Hid (digitI n = n - 48) := Lib.hid (by unfold digitI; rw [if_pos a1, if_pos a2])
      clear e1 e2
      go_enter Tryd.func111, Tryd.ntmps111
      go_wp2
      go_ret
      exact ⟨by rw [HR.out]; rfl, rfl⟩
    · have e2 : decide (n ≤ 57) = false := decide_eq_false a2
      by_cases a3 : 97 ≤ n
      · have e3 : decide (97 ≤ n) = true := decide_eq_true a3
        by_cases a4 : n ≤ 102
        · have e4 : decide (n ≤ 102) = true := decide_eq_true a4
          have HR : Hid (digitI n = n - 97 + 10) := Lib.hid (by unfold digitI; rw [if_pos a1, if_neg a2, if_pos a3, if_pos a4])
          clear e1
          go_enter Tryd.func111, Tryd.ntmps111
          go_wp2
          go_ret
          exact ⟨by rw [HR.out]; rfl, rfl⟩
        · have e4 : decide (n ≤ 102) = false := decide_eq_false a4
          have a5 : 65 ≤ n := by omega
          have e5 : decide (65 ≤ n) = true := decide_eq_true a5
          have a6 : ¬ n ≤ 70 := by omega
          have e6 : decide (n ≤ 70) = false := decide_eq_false a6
          have HR : Hid (digitI n = 99) := Lib.hid (by unfold digitI; rw [if_pos a1, if_neg a2, if_pos a3, if_neg a4, if_pos a5, if_neg a6])
          clear e1
          go_enter Tryd.func111, Tryd.ntmps111
          go_wp2
          go_ret
          exact ⟨by rw [HR.out]; rfl, rfl⟩
      · have e3 : decide (97 ≤ n) = false := decide_eq_false a3
        by_cases a5 : 65 ≤ n
        · have e5 : decide (65 ≤ n) = true := decide_eq_true a5
          by_cases a6 : n ≤ 70
          · have e6 : decide (n ≤ 70) = true := decide_eq_true a6
            have HR : Hid (digitI n = n - 65 + 10) := Lib.hid (by unfold digitI; rw [if_pos a1, if_neg a2, if_neg a3, if_pos a5, if_pos a6])
            clear e1
            go_enter Tryd.func111, Tryd.ntmps111
            go_wp2
            go_ret
            exact ⟨by rw [HR.out]; rfl, rfl⟩
          · have e6 : decide (n ≤ 70) = false := decide_eq_false a6
            have HR : Hid (digitI n = 99) := Lib.hid (by unfold digitI; rw [if_pos a1, if_neg a2, if_neg a3, if_pos a5, if_neg a6])
            clear e1
            go_enter Tryd.func111, Tryd.ntmps111
            go_wp2
            go_ret
            exact ⟨by rw [HR.out]; rfl, rfl⟩
        · have e5 : decide (65 ≤ n) = false := decide_eq_false a5
          have HR : Hid (digitI n = 99) := Lib.hid (by unfold digitI; rw [if_pos a1, if_neg a2, if_neg a3, if_neg a5])
          clear e1
          go_enter Tryd.func111, Tryd.ntmps111
          go_wp2
          go_ret
          exact ⟨by rw [HR.out]; rfl, rfl⟩
  · have e1 : decide (48 ≤ n) = false := decide_eq_false a1
    have a3 : ¬ 97 ≤ n := by omega
    have a5 : ¬ 65 ≤ n := by omega
    have e3 : decide (97 ≤ n) = false := decide_eq_false a3
    have e5 : decide (65 ≤ n) = false := decide_eq_false a5
    have HR : Hid (digitI n = 99) := Lib.hid (by unfold digitI; rw [if_neg a1])
    clear e1
    go_enter Tryd.func111, Tryd.ntmps111
    go_wp2
    go_ret
    exact ⟨by rw [HR.out]; rfl, rfl⟩
theorem drop_byte (s : ByteArray) (k : Nat) (h : k < s.size) : s.data.toList.drop k = s[k] :: s.data.toList.drop (k + 1) := by
  rw [List.drop_eq_getElem_cons (by simpa using h)]; rfl
theorem byte_toList (s : ByteArray) (k : Nat) (h : k < s.size) : s.data.toList.getD k 0 = s[k] := by
  rw [List.getD_eq_getElem?_getD, List.getElem?_eq_getElem (by simpa using h)]; rfl
set_option maxRecDepth 100000 in
set_option maxHeartbeats 2000000 in
theorem number10_calls (s : ByteArray) (hs : s.size ≤ 140737488351232) (w : World) : Calls Tryd.prog 97 #[.string s, .int .i64 10, .int .i64 3] w fun e w' => e = .returned (.int .i64 (numV s.data.toList 10 3)) ∧ w = w' := by
  have hl : s.data.toList.length = s.size := by simp
  by_cases h0 : s.size = 0
  · have e0 : ((s.size : Int) == 0) = true := beq_iff_eq.2 (by omega)
    have HR : Hid (numV s.data.toList 10 3 = -1) := Lib.hid (if_pos (by rw [hl]; exact h0))
    clear h0 hl
    go_enter Tryd.func97, Tryd.ntmps97
    go_wp2
    go_ret
    exact ⟨by rw [HR.out]; rfl, rfl⟩
  · have e0 : ((s.size : Int) == 0) = false := beq_eq_false_iff_ne.2 (by omega)
    by_cases h1 : 3 < s.size
    · have e1 : decide ((3 : Int) < (s.size : Int)) = true := decide_eq_true (by omega)
      have e1' : decide (3 < s.size) = true := decide_eq_true h1
      have HR : Hid (numV s.data.toList 10 3 = -1) := Lib.hid (by unfold numV; rw [hl, if_neg h0, if_pos (by omega)])
      clear h0 h1 hl
      go_enter Tryd.func97, Tryd.ntmps97
      go_wp2
      go_ret
      exact ⟨by rw [HR.out]; rfl, rfl⟩
    · have e1 : decide ((3 : Int) < (s.size : Int)) = false := decide_eq_false (by omega)
      have e1' : decide (3 < s.size) = false := decide_eq_false h1
      have hm : s.size ≤ 3 := by omega
      have HR : Hid (numV s.data.toList 10 3 = foldD 10 s.data.toList 0) := Lib.hid (by unfold numV; rw [hl, if_neg h0, if_neg (by omega)])
      clear h0 h1 hl
      go_enter Tryd.func97, Tryd.ntmps97
      go_wp2
      go_loop [7, 8] (fun n i => ∃ (k : Nat) (acc : Int), k ≤ s.size ∧ i = .int .i64 k ∧ n = .int .i64 acc ∧ 0 ≤ acc ∧ acc < 16 ^ k ∧ foldD 10 s.data.toList 0 = foldD 10 (s.data.toList.drop k) acc) (fun _ i => s.size - (intOf i).toNat)
      case atStart => exact ⟨0, 0, by omega, rfl, rfl, by omega, by omega, rfl⟩
      case round =>
        obtain ⟨k, acc, hk, rfl, rfl, ha0, ha1, hf⟩ := hrel
        by_cases hlt : k < s.size
        · obtain ⟨d, hd⟩ : ∃ d, digitI (s[k].toNat : Int) = d := ⟨_, rfl⟩
          have hdv : digitV s[k] = d := hd
          have hdi := digitV_in s[k]
          rw [hdv] at hdi
          obtain ⟨hd0, hd9⟩ := hdi
          have hb0 : (0 : Int) ≤ (s[k].toNat : Int) := Int.natCast_nonneg _
          have hb1 : (s[k].toNat : Int) ≤ 255 := by have := s[k].toNat_lt; omega
          have HF : Hid (foldD 10 s.data.toList 0 = if 10 ≤ d then -1 else foldD 10 (s.data.toList.drop (k + 1)) (acc * 10 + d)) := Lib.hid (by rw [hf, drop_byte s k hlt, foldD, hdv])
          have hp : (16 : Int) ^ k ≤ 256 := by
            have : (16 : Nat) ^ k ≤ 16 ^ 2 := Nat.pow_le_pow_right (by omega) (by omega)
            have h2 : ((16 ^ k : Nat) : Int) ≤ ((16 ^ 2 : Nat) : Int) := by omega
            simpa using h2
          have HA : Hid (acc < 16 ^ k) := Lib.hid ha1
          have ha2 : acc < 256 := by omega
          have HD := Lib.hid hd
          clear hf hdv hd ha1 hp
          by_cases hge : 10 ≤ d
          · have e2 : decide (10 ≤ d) = true := decide_eq_true hge
            have HS : Hid (foldD 10 s.data.toList 0 = -1) := Lib.hid (by rw [HF.out, if_pos hge])
            clear hge
            go_wp2_with (go_at_call 111; refine (digit_calls _ hb0 hb1 _).mono ?_; rintro e w' ⟨rfl, rfl⟩; rw [HD.out])
            go_ret
            exact ⟨by rw [HR.out, HS.out]; rfl, rfl⟩
          · have e2 : decide (10 ≤ d) = false := decide_eq_false hge
            have hd2 : d ≤ 9 := by omega
            have HS : Hid (foldD 10 s.data.toList 0 = foldD 10 (s.data.toList.drop (k + 1)) (acc * 10 + d)) := Lib.hid (by rw [HF.out, if_neg hge])
            clear hge
            go_wp2_with (go_at_call 111; refine (digit_calls _ hb0 hb1 _).mono ?_; rintro e w' ⟨rfl, rfl⟩; rw [HD.out])
            go_round
            case rel => exact ⟨k + 1, acc * 10 + d, by omega, by go_num, by go_num, by omega, by rw [Int.pow_succ]; have := HA.out; omega, HS.out⟩
            case measure => simp [intOf]; omega
        · have HS : Hid (foldD 10 s.data.toList 0 = acc) := Lib.hid (by rw [hf, List.drop_eq_nil_of_le (by simp; omega)]; rfl)
          clear hf ha1
          go_wp2
          go_ret
          exact ⟨by rw [HR.out, HS.out]; rfl, rfl⟩
set_option maxRecDepth 100000 in
set_option maxHeartbeats 2000000 in
theorem number16_calls (s : ByteArray) (hs : s.size ≤ 140737488351232) (w : World) : Calls Tryd.prog 97 #[.string s, .int .i64 16, .int .i64 4] w fun e w' => e = .returned (.int .i64 (numV s.data.toList 16 4)) ∧ w = w' := by
  have hl : s.data.toList.length = s.size := by simp
  by_cases h0 : s.size = 0
  · have e0 : ((s.size : Int) == 0) = true := beq_iff_eq.2 (by omega)
    have HR : Hid (numV s.data.toList 16 4 = -1) := Lib.hid (if_pos (by rw [hl]; exact h0))
    clear h0 hl
    go_enter Tryd.func97, Tryd.ntmps97
    go_wp2
    go_ret
    exact ⟨by rw [HR.out]; rfl, rfl⟩
  · have e0 : ((s.size : Int) == 0) = false := beq_eq_false_iff_ne.2 (by omega)
    by_cases h1 : 4 < s.size
    · have e1 : decide ((4 : Int) < (s.size : Int)) = true := decide_eq_true (by omega)
      have e1' : decide (4 < s.size) = true := decide_eq_true h1
      have HR : Hid (numV s.data.toList 16 4 = -1) := Lib.hid (by unfold numV; rw [hl, if_neg h0, if_pos (by omega)])
      clear h0 h1 hl
      go_enter Tryd.func97, Tryd.ntmps97
      go_wp2
      go_ret
      exact ⟨by rw [HR.out]; rfl, rfl⟩
    · have e1 : decide ((4 : Int) < (s.size : Int)) = false := decide_eq_false (by omega)
      have e1' : decide (4 < s.size) = false := decide_eq_false h1
      have hm : s.size ≤ 4 := by omega
      have HR : Hid (numV s.data.toList 16 4 = foldD 16 s.data.toList 0) := Lib.hid (by unfold numV; rw [hl, if_neg h0, if_neg (by omega)])
      clear h0 h1 hl
      go_enter Tryd.func97, Tryd.ntmps97
      go_wp2
      go_loop [7, 8] (fun n i => ∃ (k : Nat) (acc : Int), k ≤ s.size ∧ i = .int .i64 k ∧ n = .int .i64 acc ∧ 0 ≤ acc ∧ acc < 16 ^ k ∧ foldD 16 s.data.toList 0 = foldD 16 (s.data.toList.drop k) acc) (fun _ i => s.size - (intOf i).toNat)
      case atStart => exact ⟨0, 0, by omega, rfl, rfl, by omega, by omega, rfl⟩
      case round =>
        obtain ⟨k, acc, hk, rfl, rfl, ha0, ha1, hf⟩ := hrel
        by_cases hlt : k < s.size
        · obtain ⟨d, hd⟩ : ∃ d, digitI (s[k].toNat : Int) = d := ⟨_, rfl⟩
          have hdv : digitV s[k] = d := hd
          have hdi := digitV_in s[k]
          rw [hdv] at hdi
          obtain ⟨hd0, hd9⟩ := hdi
          have hb0 : (0 : Int) ≤ (s[k].toNat : Int) := Int.natCast_nonneg _
          have hb1 : (s[k].toNat : Int) ≤ 255 := by have := s[k].toNat_lt; omega
          have HF : Hid (foldD 16 s.data.toList 0 = if 16 ≤ d then -1 else foldD 16 (s.data.toList.drop (k + 1)) (acc * 16 + d)) := Lib.hid (by rw [hf, drop_byte s k hlt, foldD, hdv])
          have hp : (16 : Int) ^ k ≤ 4096 := by
            have : (16 : Nat) ^ k ≤ 16 ^ 3 := Nat.pow_le_pow_right (by omega) (by omega)
            have h2 : ((16 ^ k : Nat) : Int) ≤ ((16 ^ 3 : Nat) : Int) := by omega
            simpa using h2
          have HA : Hid (acc < 16 ^ k) := Lib.hid ha1
          have ha2 : acc < 4096 := by omega
          have HD := Lib.hid hd
          clear hf hdv hd ha1 hp
          by_cases hge : 16 ≤ d
          · have e2 : decide (16 ≤ d) = true := decide_eq_true hge
            have HS : Hid (foldD 16 s.data.toList 0 = -1) := Lib.hid (by rw [HF.out, if_pos hge])
            clear hge
            go_wp2_with (go_at_call 111; refine (digit_calls _ hb0 hb1 _).mono ?_; rintro e w' ⟨rfl, rfl⟩; rw [HD.out])
            go_ret
            exact ⟨by rw [HR.out, HS.out]; rfl, rfl⟩
          · have e2 : decide (16 ≤ d) = false := decide_eq_false hge
            have hd2 : d ≤ 15 := by omega
            have HS : Hid (foldD 16 s.data.toList 0 = foldD 16 (s.data.toList.drop (k + 1)) (acc * 16 + d)) := Lib.hid (by rw [HF.out, if_neg hge])
            clear hge
            go_wp2_with (go_at_call 111; refine (digit_calls _ hb0 hb1 _).mono ?_; rintro e w' ⟨rfl, rfl⟩; rw [HD.out])
            go_round
            case rel => exact ⟨k + 1, acc * 16 + d, by omega, by go_num, by go_num, by omega, by rw [Int.pow_succ]; have := HA.out; omega, HS.out⟩
            case measure => simp [intOf]; omega
        · have HS : Hid (foldD 16 s.data.toList 0 = acc) := Lib.hid (by rw [hf, List.drop_eq_nil_of_le (by simp; omega)]; rfl)
          clear hf ha1
          go_wp2
          go_ret
          exact ⟨by rw [HR.out, HS.out]; rfl, rfl⟩
set_option maxRecDepth 100000 in
set_option maxHeartbeats 2000000 in
theorem has_calls (s : ByteArray) (c : UInt8) (hs : s.size ≤ 140737488351232) (w : World) : Calls Tryd.prog 69 #[.string s, .int .u8 c.toNat] w fun e w' => e = .returned (.bool (s.data.toList.contains c)) ∧ w = w' := by
  obtain ⟨r, hr⟩ : ∃ r, s.data.toList.contains c = r := ⟨_, rfl⟩
  rw [hr]
  have HR := Lib.hid hr
  clear hr
  obtain ⟨z, hz⟩ : ∃ z : Int, (c.toNat : Int) = z := ⟨_, rfl⟩
  rw [hz]
  have HZ := Lib.hid hz
  clear hz
  go_enter Tryd.func69, Tryd.ntmps69
  go_wp2
  go_loop [5] (fun i => ∃ k : Nat, k ≤ s.size ∧ i = .int .i64 k ∧ s.data.toList.contains c = (s.data.toList.drop k).contains c) (fun i => s.size - (intOf i).toNat)
  case atStart => exact ⟨0, by omega, rfl, rfl⟩
  case round =>
    obtain ⟨k, hk, rfl, hf⟩ := hrel
    by_cases hlt : k < s.size
    · have hd := drop_byte s k hlt
      by_cases hx : s[k] = c
      · have e1 : ((s[k].toNat : Int) == z) = true := beq_iff_eq.2 (by rw [← HZ.out, hx])
        have HS : Hid (r = true) := Lib.hid (by rw [← HR.out, hf, hd, hx]; simp)
        clear hd hf hx
        go_wp2
        go_ret
        exact ⟨by rw [HS.out]; rfl, rfl⟩
      · have e1 : ((s[k].toNat : Int) == z) = false := beq_eq_false_iff_ne.2 (by rw [← HZ.out]; intro h; exact hx (UInt8.toNat_inj.1 (by omega)))
        have HS : Hid (s.data.toList.contains c = (s.data.toList.drop (k + 1)).contains c) := Lib.hid (by rw [hf, hd, List.contains_cons, beq_eq_false_iff_ne.2 (Ne.symm hx)]; rfl)
        clear hd hf hx
        go_wp2
        go_round
        case rel => exact ⟨k + 1, by omega, by go_num, HS.out⟩
        case measure => simp [intOf]; omega
    · have HS : Hid (r = false) := Lib.hid (by rw [← HR.out, hf, List.drop_eq_nil_of_le (by simp; omega)]; rfl)
      clear hf
      go_wp2
      go_ret
      exact ⟨by rw [HS.out]; rfl, rfl⟩
end Go.Proofs.YtpaplobjmmpliaaDoor.Ad
