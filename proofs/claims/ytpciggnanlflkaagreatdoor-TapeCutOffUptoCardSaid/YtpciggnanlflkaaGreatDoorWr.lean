/- Contract of the tape's reader's field. Conditions: none beyond those that each theorem states. -/
import Derived.Test.YtpciggnanlflkaaGreatDoorWq
import Derived.Lib.EndianBits
namespace Go.Proofs.YtpciggnanlflkaaGreatDoor.Ad
set_option linter.unusedVariables false
set_option linter.unusedSimpArgs false
open Go.RowKit Go.Maps W
/-- The number that bytes are, the highest first. -/
def beV (l : List UInt8) : Nat := l.foldl (fun v c => v * 256 + c.toNat) 0
theorem beV_snoc (l : List UInt8) (c : UInt8) : beV (l ++ [c]) = beV l * 256 + c.toNat := by simp [beV, List.foldl_append]
theorem beV_lt : ∀ (n : Nat) (l : List UInt8), l.length = n → beV l < 256 ^ n
  | 0, l, h => by obtain rfl := List.eq_nil_of_length_eq_zero h; decide
  | n + 1, l, h => by
    have hne : l ≠ [] := fun e => by rw [e] at h; cases h
    obtain ⟨m, c, rfl⟩ : ∃ m c, l = m ++ [c] := ⟨l.dropLast, l.getLast hne, (List.dropLast_concat_getLast hne).symm⟩
    have h1 := beV_lt n m (by simpa using h)
    have h2 := c.toNat_lt
    rw [beV_snoc, Nat.pow_succ]
    omega
/-- What field answers and leaves. -/
def fieldS (l : List UInt8) (e : Int) (n least most : Nat) : Int × List UInt8 × Int :=
  (wrap64 (beV (takeS l e n).1), (takeS l e n).2.1, if (takeS l e n).2.2 = 0 ∧ (beV (takeS l e n).1 < least ∨ most < beV (takeS l e n).1) then 50 else (takeS l e n).2.2)
theorem takeS_len (l : List UInt8) (e : Int) (n : Nat) : (takeS l e n).1.length ≤ n := by
  unfold takeS
  split
  · simp
  · split
    · simp
    · simp [List.length_take]; omega
theorem be_step {v x : Nat} (hv : v < 72057594037927936) (hx : x < 256) : bits .or .u64 (IntKind.u64.wrap ((v : Int) * 256)) (IntKind.u64.wrap (x : Int)) = ((v * 256 + x : Nat) : Int) := by
  rw [wraps_u64 _ (by omega) (by omega), wraps_u64 _ (by omega) (by omega), bits_join .u64 64 (by decide) wraps_u64 8 _ _ (by omega) (by omega) (by omega) (by omega) (by omega) (by omega)]
  omega
theorem beV_take {l : List UInt8} {k : Nat} {x : UInt8} (h : l[k]? = some x) : beV (l.take (k + 1)) = beV (l.take k) * 256 + x.toNat := by
  rw [List.take_add_one, h]; exact beV_snoc _ _
theorem beV_small {l : List UInt8} (h : l.length ≤ 8) : beV l < 18446744073709551616 := by
  have h1 := beV_lt _ l rfl
  exact Nat.lt_of_lt_of_le h1 (Nat.le_trans (Nat.pow_le_pow_right (by decide) h) (by decide))
set_option maxRecDepth 100000 in
set_option maxHeartbeats 4000000 in
theorem field_calls (b : Nat) (l : List UInt8) (e : Int) (n least most : Nat) (hn : n ≤ 8) (hl : l.length ≤ 140737488355328) (h1 : least ≤ 18446744073709551615) (h2 : most ≤ 18446744073709551615) (w : World) (h : Rdr w b l e) : Calls Tryz.prog 46 #[.pointer (some ⟨b, 0, none⟩), .int .i64 n, .int .u64 least, .int .u64 most] w fun ex w' =>
    ex = .returned (.int .i64 (fieldS l e n least most).1) ∧ Rdr w' b (fieldS l e n least most).2.1 (fieldS l e n least most).2.2 ∧ Fr (fun k => k = b) w w' := by
  have HT := Lib.hid (take_calls b l e n (by omega) hl w h)
  have HLN := Lib.hid (takeS_len l e n)
  have HV : Hid (fieldS l e n least most = (wrap64 (beV (takeS l e n).1), (takeS l e n).2.1, if (takeS l e n).2.2 = 0 ∧ (beV (takeS l e n).1 < least ∨ most < beV (takeS l e n).1) then 50 else (takeS l e n).2.2)) := Lib.hid rfl
  obtain ⟨⟨v, l', e'⟩, hv⟩ : ∃ s, fieldS l e n least most = s := ⟨_, rfl⟩
  rw [hv] at HV ⊢
  obtain ⟨⟨bs, l1, e1⟩, hts⟩ : ∃ s, takeS l e n = s := ⟨_, rfl⟩
  rw [hts] at HV HT HLN
  simp only at HV HT HLN
  obtain ⟨m, hm⟩ : ∃ m, bs.length = m := ⟨_, rfl⟩
  have HM := Lib.hid hm
  rw [hm] at HT HLN
  have hm8 : m ≤ 8 := by have := HLN.out; omega
  clear h hv hts hm
  go_enter Tryz.func46, Tryz.ntmps46
  go_upto_region 3 with (go_at_call 45; refine HT.out.mono ?_; rintro ex W ⟨p, c, rfl, hat, hsl, hrd, hf⟩)
  have HAT := Lib.hid hat
  have HRD := Lib.hid hrd
  have HF := Lib.hid hf
  clear hat hsl hrd hf HT
  go_loopw [9, 11, 16] (fun u9 _ u16 wr => ∃ k : Nat, u16 = .int .i64 k ∧ k ≤ m ∧ u9 = .int .u64 (beV (bs.take k)) ∧ wr = W) (fun _ _ u16 _ => m - (intOf u16).toNat)
  case atStart => exact ⟨0, rfl, Nat.zero_le _, by simp [beV], rfl⟩
  case round =>
    obtain ⟨k, rfl, hk, rfl, rfl⟩ := hrel
    by_cases hlt : k < m
    · have x1 : decide ((k : Int) < (m : Int)) = true := decide_eq_true (by omega)
      have x1' : decide (k < m) = true := decide_eq_true hlt
      have HK : Hid (k < bs.length) := Lib.hid (by have := HM.out; omega)
      obtain ⟨x, hx⟩ : ∃ x, bs[k]? = some x := ⟨_, List.getElem?_eq_getElem HK.out⟩
      have HX := Lib.hid hx
      have hap := HAT.out
      rcases hap with hap | ⟨g, o, rfl, hgl, hh⟩
      · have := HK.out; rw [hap] at this; exact absurd this (Nat.not_lt_zero _)
      have cx : wr.cell? ⟨g, o + k, none⟩ = some (.int .u8 x.toNat) := by
        rw [hh k (by rw [S_size]; exact HK.out)]
        show some (Value.int .u8 ((bs[k]'HK.out).toNat : Int)) = _
        rw [List.getElem?_eq_getElem HK.out] at hx
        rw [Option.some.inj hx]
      have HSTEP := Lib.hid (be_step (v := beV (bs.take k)) (x := x.toNat) (by
        have h3 := beV_lt _ (bs.take k) rfl
        rw [List.length_take, Nat.min_eq_left (by have := HM.out; omega)] at h3
        exact Nat.lt_of_lt_of_le h3 (Nat.le_trans (Nat.pow_le_pow_right (by decide) (show k ≤ 7 by omega)) (by decide))) x.toNat_lt)
      clear hx hh hgl
      go_wp2
      exact ⟨⟨k + 1, by go_num, by omega, by rw [beV_take HX.out]; exact congrArg (Value.int .u64) HSTEP.out, trivial⟩, by simp [intOf]; omega⟩
    · have x1 : decide ((k : Int) < (m : Int)) = false := decide_eq_false (by omega)
      have x1' : decide (k < m) = false := decide_eq_false hlt
      have HBV : Hid (bs.take k = bs) := Lib.hid (List.take_of_length_le (by have := HM.out; omega))
      rw [HBV.out]
      have hv8 : beV bs < 18446744073709551616 := beV_small (by rw [HM.out]; exact hm8)
      obtain ⟨bv, hbv⟩ : ∃ q, beV bs = q := ⟨_, rfl⟩
      rw [hbv] at HV hv8 ⊢
      obtain ⟨p2, c2, hb2, hat2, hsl2, hlt2⟩ := HRD.out
      have k1 : wr.cell? ⟨b, 1, none⟩ = some (.int .i64 e1) := hb2.cell _
      have f1 : wr.frozen? ⟨b, 1, none⟩ = false := hb2.frozen _
      have HB2 := Lib.hid hb2
      have HAT2 := Lib.hid hat2
      have HSL2 := Lib.hid hsl2
      have HLT2 := Lib.hid hlt2
      clear hlt hbv hb2 hat2 hsl2 hlt2
      by_cases he : e1 = 0
      · subst he
        by_cases hbad : bv < least ∨ most < bv
        · have hv3 : (v, l', e') = (wrap64 bv, l1, 50) := by rw [HV.out, if_pos ⟨rfl, hbad⟩]
          injection hv3 with h3 h4
          injection h4 with h4 h5
          subst h3; subst h4; subst h5
          have HE1 : Hid (bv < least ∨ most < bv) := Lib.hid hbad
          rcases hbad with hbad | hbad
          · have y1 : decide ((bv : Int) < (least : Int)) = true := decide_eq_true (by omega)
            have y1' : decide (bv < least) = true := decide_eq_true hbad
            clear hbad
            go_wp2
            go_ret
            have hf : Fr (fun k => k = b) wr (wr.setCell ⟨b, 1, none⟩ (.int .i64 50)) := fr_set
            exact ⟨rfl, ⟨p2, c2, HB2.out.set_ 1 _, HAT2.out.fr hf (fun a ha e => by obtain ⟨g, o, rfl, h1⟩ := HLT2.out a ha; simp only at e; omega), HSL2.out, HLT2.out⟩, HF.out.trans hf⟩
          · have y2 : decide ((most : Int) < (bv : Int)) = true := decide_eq_true (by omega)
            have y2' : decide (most < bv) = true := decide_eq_true hbad
            clear hbad
            obtain ⟨q1, y1⟩ : ∃ q, decide ((bv : Int) < (least : Int)) = q := ⟨_, rfl⟩
            have y1' : decide (bv < least) = q1 := by rw [← y1]; exact decide_eq_decide.2 (by omega)
            cases q1
            all_goals
              go_wp2
              go_ret
              have hf : Fr (fun k => k = b) wr (wr.setCell ⟨b, 1, none⟩ (.int .i64 50)) := fr_set
              exact ⟨rfl, ⟨p2, c2, HB2.out.set_ 1 _, HAT2.out.fr hf (fun a ha e => by obtain ⟨g, o, rfl, h1⟩ := HLT2.out a ha; simp only at e; omega), HSL2.out, HLT2.out⟩, HF.out.trans hf⟩
        · have hv3 : (v, l', e') = (wrap64 bv, l1, 0) := by rw [HV.out, if_neg (fun h => hbad h.2)]
          injection hv3 with h3 h4
          injection h4 with h4 h5
          subst h3; subst h4; subst h5
          have y1 : decide ((bv : Int) < (least : Int)) = false := decide_eq_false (by omega)
          have y1' : decide (bv < least) = false := decide_eq_false (by omega)
          have y2 : decide ((most : Int) < (bv : Int)) = false := decide_eq_false (by omega)
          have y2' : decide (most < bv) = false := decide_eq_false (by omega)
          clear hbad
          go_wp2
          go_ret
          exact ⟨rfl, ⟨p2, c2, HB2.out, HAT2.out, HSL2.out, HLT2.out⟩, HF.out⟩
      · have hv3 : (v, l', e') = (wrap64 bv, l1, e1) := by rw [HV.out, if_neg (fun h => he h.1)]
        injection hv3 with h3 h4
        injection h4 with h4 h5
        subst h3; subst h4; subst h5
        have y0 : (e' == 0) = false := beq_eq_false_iff_ne.2 he
        clear he
        go_wp2
        go_ret
        exact ⟨rfl, ⟨p2, c2, HB2.out, HAT2.out, HSL2.out, HLT2.out⟩, HF.out⟩
end Go.Proofs.YtpciggnanlflkaaGreatDoor.Ad
