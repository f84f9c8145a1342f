/- Contract of tape.decimal. Conditions: none beyond those that the theorem states. -/
import Derived.Test.YtpciggnanlflkaaGreatDoorXc
import Derived.Test.YtpciggnanlflkaaGreatDoorBr
namespace Go.Proofs.YtpciggnanlflkaaGreatDoor.Ad
set_option linter.unusedVariables false
set_option linter.unusedSimpArgs false
open Go.RowKit Go.Maps W
theorem drop_byte (s : ByteArray) (k : Nat) (h : k < s.size) : s.data.toList.drop k = s[k] :: s.data.toList.drop (k + 1) := by
  rw [List.drop_eq_getElem_cons (by simpa using h)]; rfl
theorem byte_toList (s : ByteArray) (k : Nat) (h : k < s.size) : s.data.toList.getD k 0 = s[k] := by
  rw [List.getD_eq_getElem?_getD, List.getElem?_eq_getElem (by simpa using h)]; rfl
/-- Digits read on behind a number. -/
def digsV : Nat → List UInt8 → Option Nat
  | n, [] => some n
  | n, c :: l => if c.toNat < 48 ∨ 57 < c.toNat then none else digsV (10 * n + (c.toNat - 48)) l
/-- What decimal reads. -/
def decV (l : List UInt8) : Option Nat := if l = [] ∨ 13 < l.length ∨ (l.head? = some 48 ∧ l ≠ [48]) then none else digsV 0 l
def decA (o : Option Nat) : Int := ((o.getD 0 : Nat) : Int)
theorem head_byte (s : ByteArray) (h : 0 < s.size) : s.data.toList.head? = some s[0] := by
  have h1 := drop_byte s 0 h
  rw [List.drop_zero] at h1
  rw [h1]; rfl
set_option maxRecDepth 100000 in
set_option maxHeartbeats 4000000 in
theorem decimal_calls (s : ByteArray) (hs : s.size ≤ 140737488351232) (w : World) : Calls Tryz.prog 52 #[.string s] w fun e w' => e = .returned (.tuple #[.int .i64 (decA (decV s.data.toList)), .bool (decV s.data.toList).isSome]) ∧ Below w.heap.size w w' := by
  have hl : s.data.toList.length = s.size := by simp
  have hemp : s.toList.isEmpty = decide (s.size = 0) := by
    rw [ByteArray.toList_eq, ← hl]
    cases s.data.toList <;> simp
  by_cases h0 : s.size = 0
  · have e0 : s.toList.isEmpty = true := by rw [hemp]; exact decide_eq_true h0
    have HR : Hid (decV s.data.toList = none) := Lib.hid (by unfold decV; rw [if_pos (.inl (List.eq_nil_of_length_eq_zero (by omega)))])
    clear h0 hl hemp hs
    go_enter Tryz.func52, Tryz.ntmps52
    go_wp2
    go_ret2
    exact ⟨by rw [HR.out]; rfl, Below.refl _ _⟩
  have e0 : s.toList.isEmpty = false := by rw [hemp]; exact decide_eq_false h0
  have hpos : 0 < s.size := by omega
  by_cases h1 : 13 < s.size
  · have e1 : decide ((13 : Int) < (s.size : Int)) = true := decide_eq_true (by omega)
    have e1' : decide (13 < s.size) = true := decide_eq_true h1
    have HR : Hid (decV s.data.toList = none) := Lib.hid (by unfold decV; rw [if_pos (.inr (.inl (by omega)))])
    clear h0 hl hemp h1
    go_enter Tryz.func52, Tryz.ntmps52
    go_wp2
    go_ret2
    exact ⟨by rw [HR.out]; rfl, Below.refl _ _⟩
  have e1 : decide ((13 : Int) < (s.size : Int)) = false := decide_eq_false (by omega)
  have e1' : decide (13 < s.size) = false := decide_eq_false h1
  have hm : s.size ≤ 13 := by omega
  have hh := head_byte s hpos
  have hq : (s.toList == [48]) = decide (s.data.toList = [48]) := by
    rw [ByteArray.toList_eq]
    by_cases h : s.data.toList = [48]
    · rw [h]; rfl
    · rw [decide_eq_false h]; exact beq_eq_false_iff_ne.2 h
  obtain ⟨b0, hb0⟩ : ∃ b, s[0].toNat = b := ⟨_, rfl⟩
  by_cases h2 : b0 = 48 ∧ s.data.toList ≠ [48]
  · obtain ⟨h2, h3⟩ := h2
    have e3 : ((s[0].toNat : Int) == 48) = true := beq_iff_eq.2 (by omega)
    have e4 : (s.toList == [48]) = false := by rw [hq]; exact decide_eq_false h3
    have e4' : (s.toList != [48]) = true := by rw [bne, e4]; rfl
    have HR : Hid (decV s.data.toList = none) := Lib.hid (by
      unfold decV
      rw [if_pos (.inr (.inr ⟨by rw [hh]; congr 1; exact UInt8.toNat_inj.1 (by rw [hb0, h2]; rfl), h3⟩))])
    clear h0 hl hemp h1 h2 h3 hh hq hb0
    go_enter Tryz.func52, Tryz.ntmps52
    go_wp2
    go_ret2
    exact ⟨by rw [HR.out]; rfl, Below.refl _ _⟩
  have HR : Hid (decV s.data.toList = digsV 0 s.data.toList) := Lib.hid (by
    unfold decV
    rw [if_neg]
    intro h
    rcases h with h | h | ⟨h, h'⟩
    · rw [h] at hl; simp at hl; omega
    · omega
    · rw [hh] at h; injection h with h; exact h2 ⟨by rw [← hb0, h]; rfl, h'⟩)
  have HCASE : Hid (b0 ≠ 48 ∨ s.data.toList = [48]) := Lib.hid (by
    by_cases h : b0 = 48
    · right
      by_cases h' : s.data.toList = [48]
      · exact h'
      · exact absurd ⟨h, h'⟩ h2
    · exact .inl h)
  have HB0 := Lib.hid hb0
  have HQ := Lib.hid hq
  clear h0 hl hemp h1 h2 hh hq hb0
  go_enter Tryz.func52, Tryz.ntmps52
  go_upto_region 1 with fail
  go_cut [22] (fun u wx => u = .bool false ∧ w = wx)
  case first =>
    have hc := HCASE.out
    have hb0 := HB0.out
    rcases hc with hc | hc
    · have e3 : ((s[0].toNat : Int) == 48) = false := beq_eq_false_iff_ne.2 (by omega)
      clear hc hb0
      go_wp2
      go_meet
      case rel => exact ⟨rfl, rfl⟩
    · have e4 : (s.toList == [48]) = true := by rw [HQ.out]; exact decide_eq_true hc
      have e4' : (s.toList != [48]) = false := by rw [bne, e4]; rfl
      have e3 : ((s[0].toNat : Int) == 48) = true := beq_iff_eq.2 (by
        have h1 := head_byte s hpos
        rw [hc] at h1
        injection h1 with h1
        rw [← h1]; rfl)
      clear hc hb0
      go_wp2
      go_meet
      case rel => exact ⟨rfl, rfl⟩
  case rest =>
  obtain ⟨rfl, rfl⟩ := hcut
  go_upto_region 5 with (refine W.wpList_conv rfl 9 26 5 Tryz.underlying9 Tryz.underlying26 Tryz.underlying5 _ rfl s rfl ?_; intro G cc W1 hB1 hG1 hG2 hcells)
  have HB1 := Lib.hid hB1
  clear hB1 hG1 hG2 HCASE HB0 HQ e0 e1 e1'
  go_loopw [4, 6, 26] (fun u4 _ u26 wr => ∃ (k acc : Nat), k ≤ s.size ∧ u26 = .int .i64 k ∧ u4 = .int .i64 acc ∧ acc < 10 ^ k ∧ wr = W1 ∧ digsV 0 s.data.toList = digsV acc (s.data.toList.drop k)) (fun _ _ u26 _ => s.size - (intOf u26).toNat)
  case atStart => exact ⟨0, 0, Nat.zero_le _, rfl, rfl, by decide, rfl, rfl⟩
  case round =>
    obtain ⟨k, acc, hk, rfl, rfl, ha1, rfl, hf⟩ := hrel
    by_cases hlt : k < s.size
    · have x1 : decide ((k : Int) < (s.size : Int)) = true := decide_eq_true (by omega)
      have x1' : decide (k < s.size) = true := decide_eq_true hlt
      obtain ⟨d, hd⟩ : ∃ d : Nat, s[k].toNat = d := ⟨_, rfl⟩
      have hd8 : d < 256 := by rw [← hd]; exact s[k].toNat_lt
      have HF : Hid (digsV 0 s.data.toList = if d < 48 ∨ 57 < d then none else digsV (10 * acc + (d - 48)) (s.data.toList.drop (k + 1))) := Lib.hid (by rw [hf, drop_byte s k hlt, digsV, hd])
      have cx : wr.cell? ⟨G, k, none⟩ = some (.int .u8 d) := by rw [hcells.out k hlt, byte_toList s k hlt, hd]
      have hp : 10 ^ k ≤ 10 ^ 12 := Nat.pow_le_pow_right (by omega) (by omega)
      have HA : Hid (acc < 10 ^ k) := Lib.hid ha1
      have ha2 : acc < 1000000000000 := Nat.lt_of_lt_of_le ha1 (Nat.le_trans hp (by decide))
      clear hf ha1 hp hd
      by_cases h3 : d < 48
      · have e3 : decide ((d : Int) < 48) = true := decide_eq_true (by omega)
        have e3' : decide (d < 48) = true := decide_eq_true h3
        have HS : Hid (decV s.data.toList = none) := Lib.hid (by rw [HR.out, HF.out, if_pos (.inl h3)])
        clear h3
        go_wp2
        go_ret2
        exact ⟨by rw [HS.out]; rfl, HB1.out⟩
      have e3 : decide ((d : Int) < 48) = false := decide_eq_false (by omega)
      have e3' : decide (d < 48) = false := decide_eq_false h3
      by_cases h4 : 57 < d
      · have e4 : decide ((57 : Int) < (d : Int)) = true := decide_eq_true (by omega)
        have e4' : decide (57 < d) = true := decide_eq_true h4
        have HS : Hid (decV s.data.toList = none) := Lib.hid (by rw [HR.out, HF.out, if_pos (.inr h4)])
        clear h4 h3
        go_wp2
        go_ret2
        exact ⟨by rw [HS.out]; rfl, HB1.out⟩
      have e4 : decide ((57 : Int) < (d : Int)) = false := decide_eq_false (by omega)
      have e4' : decide (57 < d) = false := decide_eq_false h4
      have HS : Hid (digsV 0 s.data.toList = digsV (10 * acc + (d - 48)) (s.data.toList.drop (k + 1))) := Lib.hid (by rw [HF.out, if_neg (by omega)])
      obtain ⟨e, rfl⟩ : ∃ e, d = 48 + e := ⟨d - 48, by omega⟩
      have he9 : e ≤ 9 := by omega
      clear h3 h4
      go_wp2
      refine ⟨⟨k + 1, 10 * acc + e, by omega, by go_num, ?_, by have := HA.out; rw [Nat.pow_succ]; omega, trivial, by rw [HS.out]; congr 2; omega⟩, by simp [intOf]; omega⟩
      congr 1; omega
    · have x1 : decide ((k : Int) < (s.size : Int)) = false := decide_eq_false (by omega)
      have x1' : decide (k < s.size) = false := decide_eq_false hlt
      have HS : Hid (decV s.data.toList = some acc) := Lib.hid (by rw [HR.out, hf, List.drop_eq_nil_of_le (by simp; omega)]; rfl)
      clear hf ha1 hlt
      go_wp2
      go_ret2
      exact ⟨by rw [HS.out]; rfl, HB1.out⟩
end Go.Proofs.YtpciggnanlflkaaGreatDoor.Ad
