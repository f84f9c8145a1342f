/- A tape's bytes there and back: plain. No program. -/
import Derived.Test.YtpciggnanlflkaaGreatDoorXg
namespace Go.Proofs.YtpciggnanlflkaaGreatDoor.Ad
set_option linter.unusedVariables false
set_option linter.unusedSimpArgs false
theorem beV_from : ∀ (l : List UInt8) (a : Nat), l.foldl (fun v c => v * 256 + c.toNat) a = a * 256 ^ l.length + beV l
  | [], a => by simp [beV]
  | c :: l, a => by
    have h1 := beV_from l (a * 256 + c.toNat)
    have h2 := beV_from l (0 * 256 + c.toNat)
    have h3 : beV (c :: l) = (0 * 256 + c.toNat) * 256 ^ l.length + beV l := h2
    rw [List.foldl_cons, h1, h3, List.length_cons, Nat.pow_succ, Nat.zero_mul, Nat.zero_add, Nat.add_mul, Nat.mul_assoc, Nat.mul_comm 256, Nat.add_assoc]
theorem beV_cons (c : UInt8) (l : List UInt8) : beV (c :: l) = c.toNat * 256 ^ l.length + beV l := by
  have h : beV (c :: l) = (0 * 256 + c.toNat) * 256 ^ l.length + beV l := beV_from l (0 * 256 + c.toNat)
  rw [h, Nat.zero_mul, Nat.zero_add]
theorem beV_inj : ∀ {l m : List UInt8}, l.length = m.length → beV l = beV m → l = m
  | [], [], _, _ => rfl
  | c :: l, d :: m, hl, h => by
    have hlen : l.length = m.length := by simpa using hl
    rw [beV_cons, beV_cons, hlen] at h
    have h1 := beV_lt _ l rfl
    have h2 := beV_lt _ m rfl
    rw [hlen] at h1
    have hp : 0 < 256 ^ m.length := Nat.pow_pos (by omega)
    have e1 : (c.toNat * 256 ^ m.length + beV l) / 256 ^ m.length = c.toNat := by
      rw [Nat.mul_comm, Nat.mul_add_div hp, Nat.div_eq_of_lt h1, Nat.add_zero]
    have e2 : (d.toNat * 256 ^ m.length + beV m) / 256 ^ m.length = d.toNat := by
      rw [Nat.mul_comm, Nat.mul_add_div hp, Nat.div_eq_of_lt h2, Nat.add_zero]
    have hc : c.toNat = d.toNat := by rw [← e1, ← e2, h]
    have hcd : c = d := UInt8.toNat_inj.1 hc
    rw [hcd, beV_inj hlen (by rw [hc] at h; omega)]
  | [], _ :: _, h, _ => by cases h
  | _ :: _, [], h, _ => by cases h
theorem beV_num (k : Nat) : ∀ n, beV (numB k n) = k % 256 ^ n
  | 0 => by rw [Nat.pow_zero, Nat.mod_one]; rfl
  | n + 1 => by
    have h := byteV_is k n
    have e : ((byteV k n).toNat : Int) = ((k / 256 ^ n % 256 : Nat) : Int) := by
      have h2 : ((2 : Int) ^ (8 * n)) = ((256 ^ n : Nat) : Int) := by
        have h3 : (2 : Nat) ^ (8 * n) = 256 ^ n := by rw [Nat.pow_mul]
        rw [← h3]; simp
      rw [h, h2]; rfl
    have e' : (byteV k n).toNat = k / 256 ^ n % 256 := by omega
    rw [numB, beV_cons, numB_len, beV_num k n, e', Nat.pow_succ, Nat.mod_mul, Nat.mul_comm, Nat.add_comm]
theorem numB_beV {n : Nat} {l : List UInt8} (h : l.length = n) : numB (beV l) n = l :=
  beV_inj (by rw [numB_len, h]) (by rw [beV_num, Nat.mod_eq_of_lt (beV_lt n l h)])
theorem getV_num {v : Int} {n least most : Nat} (l : List UInt8) (h0 : 0 ≤ v) (h1 : v < (256 ^ n : Nat)) (h2 : (least : Int) ≤ v) (h3 : v ≤ most) : getV (numB v n ++ l) n least most = .ok (v.toNat, l) := by
  obtain ⟨k, rfl⟩ := Int.eq_ofNat_of_zero_le h0
  have hb := beV_num k n
  rw [Nat.mod_eq_of_lt (by omega)] at hb
  unfold getV
  rw [List.take_left' (numB_len _ _), List.drop_left' (numB_len _ _), if_neg (by rw [List.length_append, numB_len]; omega), hb, if_neg (by omega)]
  rfl
theorem getV_take {v : Int} {n least most : Nat} (l : List UInt8) (h0 : 0 ≤ v) (h1 : v < (256 ^ n : Nat)) (h2 : (least : Int) ≤ v) (h3 : v ≤ most) (k : Nat) :
    getV ((numB v n ++ l).take k) n least most = if k < n then .error 20 else .ok (v.toNat, l.take (k - n)) := by
  by_cases hk : k < n
  · rw [if_pos hk]
    unfold getV
    rw [if_pos (by rw [List.length_take]; omega)]
  · rw [if_neg hk, List.take_append, List.take_of_length_le (by rw [numB_len]; omega), numB_len]
    exact getV_num _ h0 h1 h2 h3
theorem getV_back {l l' : List UInt8} {n least most v : Nat} (h : getV l n least most = .ok (v, l')) : l = numB v n ++ l' ∧ least ≤ v ∧ v ≤ most := by
  unfold getV at h
  by_cases h1 : l.length < n
  · rw [if_pos h1] at h; cases h
  · rw [if_neg h1] at h
    by_cases h2 : beV (l.take n) < least ∨ most < beV (l.take n)
    · rw [if_pos h2] at h; cases h
    · rw [if_neg h2] at h
      injection h with h
      injection h with h3 h4
      subst h3; subst h4
      refine ⟨?_, by omega, by omega⟩
      rw [numB_beV (by rw [List.length_take]; omega), List.take_append_drop]
theorem outV_back (b : Bool) : ((outV b).toNat == 1) = b := by cases b <;> rfl
theorem recE_take {r : Rec} {snap frm : Int} (l : List UInt8) (hm : mayV r snap frm = true) (hs : 0 ≤ snap) (hf : 0 ≤ frm) (k : Nat) :
    recE snap.toNat frm.toNat ((recB r ++ l).take k) = if k < (recB r).length then .error 20 else .ok (r, l.take (k - (recB r).length)) := by
  have hd : (r.data.length : Int) = min r.long snap := by have := of_decide_eq_true hm; omega
  obtain ⟨a1, a2, a3, a4, a5, a6⟩ := may_range hm
  have p8 : (256 ^ 8 : Nat) = 18446744073709551616 := by decide
  have p1 : (256 ^ 1 : Nat) = 256 := by decide
  have p4 : (256 ^ 4 : Nat) = 4294967296 := by decide
  have ho : 0 ≤ outV r.out ∧ outV r.out ≤ 1 := by unfold outV; split <;> omega
  rw [recB_len]
  unfold recE recB
  simp only [List.append_assoc]
  rw [getV_take _ (by omega) (by omega) (by omega) (by omega)]
  by_cases k1 : k < 8
  · rw [if_pos k1, if_pos (by omega)]
  rw [if_neg k1]
  simp only
  rw [getV_take _ (by omega) (by omega) (by omega) (by omega)]
  by_cases k2 : k - 8 < 1
  · rw [if_pos k2, if_pos (by omega)]
  rw [if_neg k2]
  simp only
  rw [getV_take _ (by omega) (by omega) (by omega) (by omega)]
  by_cases k3 : k - 8 - 1 < 1
  · rw [if_pos k3, if_pos (by omega)]
  rw [if_neg k3]
  simp only
  rw [getV_take _ (by omega) (by omega) (by omega) (by omega)]
  by_cases k4 : k - 8 - 1 - 1 < 4
  · rw [if_pos k4, if_pos (by omega)]
  rw [if_neg k4]
  simp only
  have hmin : min r.long.toNat snap.toNat = r.data.length := by omega
  rw [hmin]
  by_cases k5 : k < 14 + r.data.length
  · rw [if_pos k5, if_pos (by rw [List.length_take]; omega)]
  · rw [if_neg k5, if_neg (by rw [List.length_take, List.length_append]; omega)]
    rw [List.take_append, List.take_of_length_le (l := r.data) (by omega), List.take_left' rfl, List.drop_left' rfl, outV_back]
    obtain ⟨tk, nd, ou, lg, dt⟩ := r
    simp only at *
    rw [show ((tk.toNat : Nat) : Int) = tk by omega, show ((nd.toNat : Nat) : Int) = nd by omega, show ((lg.toNat : Nat) : Int) = lg by omega, show k - 8 - 1 - 1 - 4 - dt.length = k - (14 + dt.length) by omega]
theorem recsE_take {snap : Int} (hs : 0 ≤ snap) (tail : List UInt8) : ∀ (l : List Rec) (frm : Int) (k : Nat), 0 ≤ frm → allV snap frm l = true →
    recsE snap.toNat l.length frm.toNat ((l.flatMap recB ++ tail).take k) = if k < (l.flatMap recB).length then .error 20 else .ok (l, tail.take (k - (l.flatMap recB).length))
  | [], frm, k, _, _ => by simp [recsE]
  | r :: l, frm, k, hf, h => by
    rw [allV, Bool.and_eq_true] at h
    have hr := may_range h.1
    rw [List.length_cons, recsE, List.flatMap_cons, List.append_assoc, recE_take _ h.1 hs hf, List.length_append]
    by_cases k1 : k < (recB r).length
    · rw [if_pos k1, if_pos (by omega)]
    · rw [if_neg k1]
      simp only
      rw [recsE_take hs tail l r.tk _ (by omega) h.2]
      by_cases k2 : k - (recB r).length < (l.flatMap recB).length
      · rw [if_pos k2, if_pos (by omega)]
      · rw [if_neg k2, if_neg (by omega), Nat.sub_sub]
theorem right_split {t : Tp} (h : rightV t = true) : 0 ≤ t.snap ∧ t.snap ≤ 65575 ∧ t.recs.length ≤ 4096 ∧ allV t.snap 0 t.recs = true := by
  unfold rightV at h
  rw [Bool.and_eq_true] at h
  have := of_decide_eq_true h.1
  exact ⟨by omega, by omega, by omega, h.2⟩
theorem readE_take {t : Tp} (h : rightV t = true) (tail : List UInt8) (k : Nat) :
    readE ((bytesB t ++ tail).take k) = if k < (bytesB t).length then .error 20 else if tail.take (k - (bytesB t).length) = [] then .ok t else .error 21 := by
  obtain ⟨h1, h2, h3, h4⟩ := right_split h
  have p1 : (256 ^ 1 : Nat) = 256 := by decide
  have p4 : (256 ^ 4 : Nat) = 4294967296 := by decide
  have hlen : (bytesB t).length = 13 + (t.recs.flatMap recB).length := by unfold bytesB; rw [List.length_append, headB_len]
  have e : bytesB t ++ tail = markB ++ (numB 1 1 ++ (numB t.snap 4 ++ (numB (t.recs.length : Int) 4 ++ (t.recs.flatMap recB ++ tail)))) := by
    unfold bytesB headB
    simp only [List.append_assoc]
    rfl
  rw [e, hlen]
  unfold readE
  by_cases k0 : k < 4
  · rw [if_pos (by rw [List.length_take]; omega), if_pos (by omega)]
  · have t1 : (List.take k (markB ++ (numB 1 1 ++ (numB t.snap 4 ++ (numB (t.recs.length : Int) 4 ++ (t.recs.flatMap recB ++ tail)))))) = markB ++ (numB 1 1 ++ (numB t.snap 4 ++ (numB (t.recs.length : Int) 4 ++ (t.recs.flatMap recB ++ tail)))).take (k - 4) := by
      rw [List.take_append, List.take_of_length_le (show markB.length ≤ k by show 4 ≤ k; omega)]; rfl
    rw [t1, if_neg (by rw [List.length_append]; show ¬ 4 + _ < 4; omega), List.take_left' (show markB.length = 4 from rfl), if_neg (by simp), List.drop_left' (show markB.length = 4 from rfl)]
    rw [getV_take _ (by omega) (by omega) (by omega) (by omega)]
    by_cases k1 : k - 4 < 1
    · rw [if_pos k1, if_pos (by omega)]
    rw [if_neg k1]
    simp only
    rw [getV_take _ (by omega) (by omega) (by omega) (by omega)]
    by_cases k2 : k - 4 - 1 < 4
    · rw [if_pos k2, if_pos (by omega)]
    rw [if_neg k2]
    simp only
    rw [getV_take _ (by omega) (by omega) (by omega) (by omega)]
    by_cases k3 : k - 4 - 1 - 4 < 4
    · rw [if_pos k3, if_pos (by omega)]
    rw [if_neg k3]
    simp only
    have hr := recsE_take h1 tail t.recs 0 (k - 4 - 1 - 4 - 4) (by omega) h4
    rw [show (0 : Int).toNat = 0 from rfl] at hr
    rw [show ((t.recs.length : Nat) : Int).toNat = t.recs.length from rfl, hr]
    by_cases k4 : k < 13 + (t.recs.flatMap recB).length
    · rw [if_pos (by omega), if_pos k4]; rfl
    · rw [if_neg (by omega), if_neg k4, show k - 4 - 1 - 4 - 4 - (t.recs.flatMap recB).length = k - (13 + (t.recs.flatMap recB).length) by omega]
      unfold tailE
      simp only [List.nil_append]
      rw [show ((t.snap.toNat : Nat) : Int) = t.snap by omega]
theorem readE_back {t : Tp} (h : rightV t = true) : readE (bytesB t) = .ok t := by
  have h1 := readE_take h [] (bytesB t).length
  rw [List.append_nil, List.take_length, if_neg (by omega), List.take_nil, if_pos rfl] at h1
  exact h1
theorem read_back {t : Tp} (h : rightV t = true) : readV8 (bytesB t) = (t, 0) := by unfold readV8; rw [readE_back h]
theorem read_cut {t : Tp} (h : rightV t = true) {k : Nat} (hk : k < (bytesB t).length) : readV8 ((bytesB t).take k) = (⟨0, []⟩, 20) := by
  have h1 := readE_take h [] k
  rw [List.append_nil, if_pos hk] at h1
  unfold readV8; rw [h1]
theorem read_more {t : Tp} (h : rightV t = true) {m : List UInt8} (hm : m ≠ []) : readV8 (bytesB t ++ m) = (⟨0, []⟩, 21) := by
  have h1 := readE_take h m (bytesB t ++ m).length
  rw [List.take_length, if_neg (by rw [List.length_append]; omega), List.take_of_length_le (by rw [List.length_append]; omega), if_neg hm] at h1
  unfold readV8; rw [h1]
theorem recE_back {snap frm : Nat} {l l' : List UInt8} {r : Rec} (h : recE snap frm l = .ok (r, l')) : l = recB r ++ l' ∧ mayV r snap frm = true := by
  unfold recE at h
  split at h
  · cases h
  · next tk l1 g1 =>
    split at h
    · cases h
    · next nd l2 g2 =>
      split at h
      · cases h
      · next o l3 g3 =>
        split at h
        · cases h
        · next lg l4 g4 =>
          by_cases hlen : l4.length < min lg snap
          · rw [if_pos hlen] at h; cases h
          · rw [if_neg hlen] at h
            injection h with h
            injection h with h5 h6
            subst h5; subst h6
            obtain ⟨rfl, a1, a2⟩ := getV_back g1
            obtain ⟨rfl, b1, b2⟩ := getV_back g2
            obtain ⟨rfl, c1, c2⟩ := getV_back g3
            obtain ⟨rfl, d1, d2⟩ := getV_back g4
            have ho : outV (o == 1) = (o : Int) := by
              rcases (show o = 0 ∨ o = 1 by omega) with rfl | rfl <;> rfl
            refine ⟨?_, decide_eq_true ?_⟩
            · unfold recB
              simp only [ho, List.append_assoc, List.take_append_drop]
            · simp only [List.length_take]
              omega
theorem recsE_back {snap : Nat} : ∀ {n frm : Nat} {l l' : List UInt8} {rs : List Rec}, recsE snap n frm l = .ok (rs, l') → l = rs.flatMap recB ++ l' ∧ allV snap frm rs = true ∧ rs.length = n
  | 0, frm, l, l', rs, h => by
    rw [recsE] at h
    injection h with h
    injection h with h1 h2
    subst h1; subst h2
    exact ⟨rfl, rfl, rfl⟩
  | n + 1, frm, l, l', rs, h => by
    rw [recsE] at h
    split at h
    · cases h
    · next r l1 g1 =>
      split at h
      · cases h
      · next rs' l2 g2 =>
        injection h with h
        injection h with h1 h2
        subst h1; subst h2
        obtain ⟨e1, e2⟩ := recE_back g1
        obtain ⟨e3, e4, e5⟩ := recsE_back g2
        have ht : ((r.tk.toNat : Nat) : Int) = r.tk := by have := may_range e2; omega
        rw [ht] at e4
        refine ⟨by rw [e1, e3, List.flatMap_cons, List.append_assoc], by rw [allV, e2, e4]; rfl, by rw [List.length_cons, e5]⟩
theorem readE_is {b : List UInt8} {t : Tp} (h : readE b = .ok t) : bytesB t = b ∧ rightV t = true := by
  unfold readE at h
  by_cases h0 : b.length < 4
  · rw [if_pos h0] at h; cases h
  rw [if_neg h0] at h
  by_cases h1 : b.take 4 ≠ markB
  · rw [if_pos h1] at h; cases h
  rw [if_neg h1] at h
  have hm : b.take 4 = markB := Classical.not_not.1 h1
  split at h
  · cases h
  · next v l1 g1 =>
    split at h
    · cases h
    · next sn l2 g2 =>
      split at h
      · cases h
      · next ct l3 g3 =>
        obtain ⟨e1, a1, a2⟩ := getV_back g1
        obtain ⟨e2, b1, b2⟩ := getV_back g2
        obtain ⟨e3, c1, c2⟩ := getV_back g3
        unfold tailE at h
        split at h
        · cases h
        · next rs l4 g4 =>
          by_cases hl : l4 = []
          · rw [if_pos hl] at h
            injection h with h
            subst h
            obtain ⟨e4, e5, e6⟩ := recsE_back g4
            obtain rfl : v = 1 := by omega
            refine ⟨?_, ?_⟩
            · have e0 : b = markB ++ b.drop 4 := by rw [← hm, List.take_append_drop]
              rw [e0, e1, e2, e3, e4, hl]
              unfold bytesB headB
              simp only [List.nil_append, List.append_assoc, List.append_nil, e6]
              rfl
            · unfold rightV
              simp only [List.nil_append]
              rw [decide_eq_true (by omega), Bool.true_and]
              exact e5
          · rw [if_neg hl] at h; cases h
theorem readE_ne {b : List UInt8} {c : Int} (h : readE b = .error c) : c = 20 ∨ c = 21 ∨ c = 50 := by
  have hg : ∀ {l : List UInt8} {n least most : Nat} {c : Int}, getV l n least most = .error c → c = 20 ∨ c = 21 ∨ c = 50 := by
    intro l n least most c h
    unfold getV at h
    split at h
    · injection h with h; omega
    · split at h
      · injection h with h; omega
      · cases h
  have hr : ∀ {snap frm : Nat} {l : List UInt8} {c : Int}, recE snap frm l = .error c → c = 20 ∨ c = 21 ∨ c = 50 := by
    intro snap frm l c h
    unfold recE at h
    split at h
    · next g => injection h with h; subst h; exact hg g
    · split at h
      · next g => injection h with h; subst h; exact hg g
      · split at h
        · next g => injection h with h; subst h; exact hg g
        · split at h
          · next g => injection h with h; subst h; exact hg g
          · split at h
            · injection h with h; omega
            · cases h
  have hrs : ∀ {n : Nat} {snap frm : Nat} {l : List UInt8} {c : Int}, recsE snap n frm l = .error c → c = 20 ∨ c = 21 ∨ c = 50 := by
    intro n
    induction n with
    | zero => intro snap frm l c h; cases h
    | succ n ih =>
      intro snap frm l c h
      rw [recsE] at h
      split at h
      · next g => injection h with h; subst h; exact hr g
      · split at h
        · next g => injection h with h; subst h; exact ih g
        · cases h
  unfold readE at h
  split at h
  · injection h with h; omega
  · split at h
    · injection h with h; omega
    · split at h
      · next g => injection h with h; subst h; exact hg g
      · split at h
        · next g => injection h with h; subst h; exact hg g
        · split at h
          · next g => injection h with h; subst h; exact hg g
          · unfold tailE at h
            split at h
            · next g => injection h with h; subst h; exact hrs g
            · split at h
              · cases h
              · injection h with h; omega
/-- What Read takes is what its tape is laid as; else it answers no tape. -/
theorem read_is (b : List UInt8) : ((readV8 b).2 = 0 ∧ bytesB (readV8 b).1 = b ∧ rightV (readV8 b).1 = true) ∨ ((readV8 b).2 ≠ 0 ∧ (readV8 b).1 = ⟨0, []⟩) := by
  unfold readV8
  split
  · next t h => exact .inl ⟨rfl, readE_is h⟩
  · next c h => exact .inr ⟨by have := readE_ne h; show c ≠ 0; omega, rfl⟩
end Go.Proofs.YtpciggnanlflkaaGreatDoor.Ad
