/- Contracts of the reference's number and place. Conditions: a text is shorter than 2^47. -/
import Derived.Test.YtpaplobjmmpliaaDoorRm
import Derived.Test.YtpaplobjmmpliaaDoorRz
namespace Go.Proofs.YtpaplobjmmpliaaDoor.Ad
set_option linter.unusedVariables false
set_option linter.unusedSimpArgs false
open Go.RowKit W
theorem numR_none {l : List UInt8} (h : l.length < 1 ∨ 3 < l.length ∨ (1 < l.length ∧ (l.getD 0 0).toNat = 48)) : numR l = -1 := by unfold numR; rw [numQ_none h]; rfl
set_option maxRecDepth 100000 in
set_option maxHeartbeats 4000000 in
theorem rnum_calls (s : ByteArray) (hs : s.size ≤ 140737488351232) (w : World) : Calls Tryd.prog 56 #[.string s] w fun e w' => e = .returned (.int .i64 (numR s.data.toList)) ∧ w = w' := by
  have hl : s.data.toList.length = s.size := by simp
  by_cases h0 : s.size < 1
  · have e0 : decide ((s.size : Int) < 1) = true := decide_eq_true (by omega)
    have e0' : decide (s.size < 1) = true := decide_eq_true h0
    have HR : Hid (numR s.data.toList = -1) := Lib.hid (numR_none (.inl (by omega)))
    clear h0 hl
    go_enter Tryd.func56, Tryd.ntmps56
    go_wp2
    go_ret
    exact ⟨by rw [HR.out]; rfl, rfl⟩
  · have e0 : decide ((s.size : Int) < 1) = false := decide_eq_false (by omega)
    have e0' : decide (s.size < 1) = false := decide_eq_false h0
    by_cases h1 : 3 < s.size
    · have e1 : decide ((3 : Int) < (s.size : Int)) = true := decide_eq_true (by omega)
      have e1' : decide (3 < s.size) = true := decide_eq_true h1
      have HR : Hid (numR s.data.toList = -1) := Lib.hid (numR_none (.inr (.inl (by omega))))
      clear h0 h1 hl
      go_enter Tryd.func56, Tryd.ntmps56
      go_wp2
      go_ret
      exact ⟨by rw [HR.out]; rfl, rfl⟩
    · have e1 : decide ((3 : Int) < (s.size : Int)) = false := decide_eq_false (by omega)
      have e1' : decide (3 < s.size) = false := decide_eq_false h1
      have hm : s.size ≤ 3 := by omega
      have hpos : 0 < s.size := by omega
      have hb0 : s.data.toList.getD 0 0 = s[0] := byte_toList s 0 hpos
      by_cases h3 : s[0].toNat = 48
      · have e3 : ((s[0].toNat : Int) == 48) = true := beq_iff_eq.2 (by omega)
        by_cases h2 : 1 < s.size
        · have e2 : decide ((1 : Int) < (s.size : Int)) = true := decide_eq_true (by omega)
          have e2' : decide (1 < s.size) = true := decide_eq_true h2
          have HR : Hid (numR s.data.toList = -1) := Lib.hid (numR_none (.inr (.inr ⟨by omega, by rw [hb0]; exact h3⟩)))
          clear h0 h1 hl h3 hb0
          go_enter Tryd.func56, Tryd.ntmps56
          go_wp2
          go_ret
          exact ⟨by rw [HR.out]; rfl, rfl⟩
        · have e2 : decide ((1 : Int) < (s.size : Int)) = false := decide_eq_false (by omega)
          have e2' : decide (1 < s.size) = false := decide_eq_false h2
          have HR : Hid (numQ s.data.toList = foldN s.data.toList 0) := Lib.hid (numQ_some (by rw [hl]; omega))
          clear h0 h1 hl hb0 h2 h3
          go_enter Tryd.func56, Tryd.ntmps56
          go_wp2
          go_loop [3, 4] (fun n i => ∃ (k : Nat) (acc : Int), k ≤ s.size ∧ i = .int .i64 k ∧ n = .int .i64 acc ∧ 0 ≤ acc ∧ acc < 10 ^ k ∧ foldN s.data.toList 0 = foldN (s.data.toList.drop k) acc) (fun _ i => s.size - (intOf i).toNat)
          case atStart => exact ⟨0, 0, by omega, rfl, rfl, by omega, by omega, rfl⟩
          case round =>
            obtain ⟨k, acc, hk, rfl, rfl, ha0, ha1, hf⟩ := hrel
            by_cases hlt : k < s.size
            · have e9 : decide ((k : Int) < (s.size : Int)) = true := decide_eq_true (by omega)
              have e9' : decide (k < s.size) = true := decide_eq_true hlt
              obtain ⟨d, hd⟩ : ∃ d : Int, (s[k].toNat : Int) = d := ⟨_, rfl⟩
              have hb1 : d ≤ 255 := by have := s[k].toNat_lt; omega
              have hb0 : 0 ≤ d := by omega
              have HF : Hid (foldN s.data.toList 0 = if d < 48 ∨ 57 < d then none else foldN (s.data.toList.drop (k + 1)) (acc * 10 + (d - 48))) := Lib.hid (by rw [hf, drop_byte s k hlt, foldN, hd])
              have hp : (10 : Int) ^ k ≤ 100 := by
                have : (10 : Nat) ^ k ≤ 10 ^ 2 := Nat.pow_le_pow_right (by omega) (by omega)
                have h2 : ((10 ^ k : Nat) : Int) ≤ ((10 ^ 2 : Nat) : Int) := by omega
                simpa using h2
              have HA : Hid (acc < 10 ^ k) := Lib.hid ha1
              have ha2 : acc < 100 := by omega
              clear hf ha1 hp
              by_cases h3 : d < 48
              · have e3 : decide (d < 48) = true := decide_eq_true h3
                have HS : Hid (numR s.data.toList = -1) := Lib.hid (by unfold numR; rw [HR.out, HF.out, if_pos (.inl h3)]; rfl)
                clear h3
                go_wp2
                go_ret
                exact ⟨by rw [HS.out]; rfl, rfl⟩
              · have e3 : decide (d < 48) = false := decide_eq_false h3
                by_cases h4 : 57 < d
                · have e4 : decide (57 < d) = true := decide_eq_true h4
                  have HS : Hid (numR s.data.toList = -1) := Lib.hid (by unfold numR; rw [HR.out, HF.out, if_pos (.inr h4)]; rfl)
                  clear h4
                  go_wp2
                  go_ret
                  exact ⟨by rw [HS.out]; rfl, rfl⟩
                · have e4 : decide (57 < d) = false := decide_eq_false h4
                  have HS : Hid (foldN s.data.toList 0 = foldN (s.data.toList.drop (k + 1)) (acc * 10 + (d - 48))) := Lib.hid (by rw [HF.out, if_neg (by omega)])
                  have hd1 : 48 ≤ d := by omega
                  have hd2 : d ≤ 57 := by omega
                  clear h3 h4
                  go_wp2
                  go_round
                  case rel => exact ⟨k + 1, acc * 10 + (d - 48), by omega, by go_num, by go_num, by omega, by rw [Int.pow_succ]; have := HA.out; omega, HS.out⟩
                  case measure => simp [intOf]; omega
            · have HS : Hid (numR s.data.toList = acc) := Lib.hid (by unfold numR; rw [HR.out, hf, List.drop_eq_nil_of_le (by simp; omega)]; rfl)
              have e9 : decide ((k : Int) < (s.size : Int)) = false := decide_eq_false (by omega)
              have e9' : decide (k < s.size) = false := decide_eq_false hlt
              clear hf ha1
              go_wp2
              go_ret
              exact ⟨by rw [HS.out]; rfl, rfl⟩
      · have e3 : ((s[0].toNat : Int) == 48) = false := beq_eq_false_iff_ne.2 (by omega)
        have HR : Hid (numQ s.data.toList = foldN s.data.toList 0) := Lib.hid (numQ_some (by rw [hl, hb0]; omega))
        clear h0 h1 hl h3 hb0
        go_enter Tryd.func56, Tryd.ntmps56
        go_wp2
        go_loop [3, 4] (fun n i => ∃ (k : Nat) (acc : Int), k ≤ s.size ∧ i = .int .i64 k ∧ n = .int .i64 acc ∧ 0 ≤ acc ∧ acc < 10 ^ k ∧ foldN s.data.toList 0 = foldN (s.data.toList.drop k) acc) (fun _ i => s.size - (intOf i).toNat)
        case atStart => exact ⟨0, 0, by omega, rfl, rfl, by omega, by omega, rfl⟩
        case round =>
          obtain ⟨k, acc, hk, rfl, rfl, ha0, ha1, hf⟩ := hrel
          by_cases hlt : k < s.size
          · have e9 : decide ((k : Int) < (s.size : Int)) = true := decide_eq_true (by omega)
            have e9' : decide (k < s.size) = true := decide_eq_true hlt
            obtain ⟨d, hd⟩ : ∃ d : Int, (s[k].toNat : Int) = d := ⟨_, rfl⟩
            have hb1 : d ≤ 255 := by have := s[k].toNat_lt; omega
            have hb0 : 0 ≤ d := by omega
            have HF : Hid (foldN s.data.toList 0 = if d < 48 ∨ 57 < d then none else foldN (s.data.toList.drop (k + 1)) (acc * 10 + (d - 48))) := Lib.hid (by rw [hf, drop_byte s k hlt, foldN, hd])
            have hp : (10 : Int) ^ k ≤ 100 := by
              have : (10 : Nat) ^ k ≤ 10 ^ 2 := Nat.pow_le_pow_right (by omega) (by omega)
              have h2 : ((10 ^ k : Nat) : Int) ≤ ((10 ^ 2 : Nat) : Int) := by omega
              simpa using h2
            have HA : Hid (acc < 10 ^ k) := Lib.hid ha1
            have ha2 : acc < 100 := by omega
            clear hf ha1 hp
            by_cases h3 : d < 48
            · have e3 : decide (d < 48) = true := decide_eq_true h3
              have HS : Hid (numR s.data.toList = -1) := Lib.hid (by unfold numR; rw [HR.out, HF.out, if_pos (.inl h3)]; rfl)
              clear h3
              go_wp2
              go_ret
              exact ⟨by rw [HS.out]; rfl, rfl⟩
            · have e3 : decide (d < 48) = false := decide_eq_false h3
              by_cases h4 : 57 < d
              · have e4 : decide (57 < d) = true := decide_eq_true h4
                have HS : Hid (numR s.data.toList = -1) := Lib.hid (by unfold numR; rw [HR.out, HF.out, if_pos (.inr h4)]; rfl)
                clear h4
                go_wp2
                go_ret
                exact ⟨by rw [HS.out]; rfl, rfl⟩
              · have e4 : decide (57 < d) = false := decide_eq_false h4
                have HS : Hid (foldN s.data.toList 0 = foldN (s.data.toList.drop (k + 1)) (acc * 10 + (d - 48))) := Lib.hid (by rw [HF.out, if_neg (by omega)])
                have hd1 : 48 ≤ d := by omega
                have hd2 : d ≤ 57 := by omega
                clear h3 h4
                go_wp2
                go_round
                case rel => exact ⟨k + 1, acc * 10 + (d - 48), by omega, by go_num, by go_num, by omega, by rw [Int.pow_succ]; have := HA.out; omega, HS.out⟩
                case measure => simp [intOf]; omega
          · have HS : Hid (numR s.data.toList = acc) := Lib.hid (by unfold numR; rw [HR.out, hf, List.drop_eq_nil_of_le (by simp; omega)]; rfl)
            have e9 : decide ((k : Int) < (s.size : Int)) = false := decide_eq_false (by omega)
            have e9' : decide (k < s.size) = false := decide_eq_false hlt
            clear hf ha1
            go_wp2
            go_ret
            exact ⟨by rw [HS.out]; rfl, rfl⟩
set_option maxRecDepth 100000 in
set_option maxHeartbeats 4000000 in
theorem place_calls (l : List UInt8) (hs : l.length ≤ 140737488351232) (c : UInt8) (x : Int) (hx : (c.toNat : Int) = x) (w : World) : Calls Tryd.prog 35 #[.string (S l), .int .u8 x] w fun e w' => e = .returned (.int .i64 (placeV l c)) ∧ w = w' := by
  obtain ⟨s, hsl⟩ : ∃ s, S l = s := ⟨_, rfl⟩
  have HL : Hid (s.data.toList = l) := Lib.hid (by rw [← hsl]; exact S_list l)
  have hsz : s.size ≤ 140737488351232 := by rw [← hsl, S_size]; exact hs
  obtain ⟨v, hv⟩ : ∃ v, placeV l c = v := ⟨_, rfl⟩
  have HV := Lib.hid hv
  have HX := Lib.hid hx
  rw [hsl, hv]
  clear hv hsl hs hx
  go_enter Tryd.func35, Tryd.ntmps35
  go_wp2
  go_loop [5] (fun i => ∃ k : Nat, k ≤ s.size ∧ i = .int .i64 k ∧ Hid (c ∉ l.take k)) (fun i => s.size - (intOf i).toNat)
  case atStart => exact ⟨0, by omega, rfl, Lib.hid (by simp)⟩
  case round =>
    obtain ⟨k, hk, rfl, HN⟩ := hrel
    by_cases hlt : k < s.size
    · have e9 : decide ((k : Int) < (s.size : Int)) = true := decide_eq_true (by omega)
      have e9' : decide (k < s.size) = true := decide_eq_true hlt
      obtain ⟨d, hd⟩ : ∃ d : Int, (s[k].toNat : Int) = d := ⟨_, rfl⟩
      have HD : Hid (l.drop k = s[k] :: l.drop (k + 1)) := Lib.hid (by have := drop_byte s k hlt; rwa [HL.out] at this)
      have HDD := Lib.hid hd
      by_cases hdx : d = x
      · have e1 : (d == x) = true := beq_iff_eq.2 hdx
        have hc : s[k] = c := UInt8.toNat_inj.1 (by have := HX.out; omega)
        have HF : Hid (v = (k : Nat)) := Lib.hid (by
          rw [← HV.out]
          have e : l = l.take k ++ c :: l.drop (k + 1) := by rw [← hc, ← HD.out, List.take_append_drop]
          have hlk : (l.take k).length = k := by rw [List.length_take, Nat.min_eq_left]; have := congrArg List.length HL.out; simp at this; omega
          rw [e, place_at HN.out, hlk])
        clear hc hdx
        go_wp2
        go_ret
        exact ⟨by rw [HF.out]; rfl, rfl⟩
      · have e1 : (d == x) = false := beq_eq_false_iff_ne.2 hdx
        have HN2 : Hid (c ∉ l.take (k + 1)) := Lib.hid (by
          intro hm
          have e : l.take (k + 1) = l.take k ++ [s[k]] := by
            rw [List.take_add_one]
            have : l[k]? = some s[k] := by
              have := congrArg List.head? HD.out
              rwa [List.head?_drop, List.head?_cons] at this
            rw [this]; rfl
          rw [e] at hm
          rcases List.mem_append.1 hm with hm | hm
          · exact HN.out hm
          · obtain rfl := List.mem_singleton.1 hm
            exact hdx (by rw [← HX.out, ← HDD.out]))
        clear hdx
        go_wp2
        go_round
        case rel => exact ⟨k + 1, by omega, by go_num, HN2⟩
        case measure => simp [intOf]; omega
    · have e9 : decide ((k : Int) < (s.size : Int)) = false := decide_eq_false (by omega)
      have e9' : decide (k < s.size) = false := decide_eq_false hlt
      have HF : Hid (v = -1) := Lib.hid (by
        rw [← HV.out]
        refine place_none ?_
        have hll : l.length ≤ k := by have := congrArg List.length HL.out; simp at this; omega
        have := HN.out
        rwa [List.take_of_length_le hll] at this)
      clear hlt
      go_wp2
      go_ret
      exact ⟨by rw [HF.out]; rfl, rfl⟩
end Go.Proofs.YtpaplobjmmpliaaDoor.Ad
