/- Bytes taken apart, plain; a list that grows by one in a later world. Conditions: none beyond those that each theorem states. -/
import Derived.Test.YtpciggnanlflkaaGreatDoorWr
namespace Go.Proofs.YtpciggnanlflkaaGreatDoor.Ad
set_option linter.unusedVariables false
set_option linter.unusedSimpArgs false
open Go.RowKit Go.Maps W
/-- A number in front, from least to most. -/
def getV (l : List UInt8) (n least most : Nat) : Except Int (Nat × List UInt8) :=
  if l.length < n then .error 20 else if beV (l.take n) < least ∨ most < beV (l.take n) then .error 50 else .ok (beV (l.take n), l.drop n)
def recE (snap frm : Nat) (l : List UInt8) : Except Int (Rec × List UInt8) :=
  match getV l 8 frm 1099511627776 with
  | .error c => .error c
  | .ok (tk, l1) => match getV l1 1 0 15 with
    | .error c => .error c
    | .ok (nd, l2) => match getV l2 1 0 1 with
      | .error c => .error c
      | .ok (o, l3) => match getV l3 4 0 65575 with
        | .error c => .error c
        | .ok (lg, l4) => if l4.length < min lg snap then .error 20 else .ok (⟨tk, nd, o == 1, lg, l4.take (min lg snap)⟩, l4.drop (min lg snap))
def recsE (snap : Nat) : Nat → Nat → List UInt8 → Except Int (List Rec × List UInt8)
  | 0, _, l => .ok ([], l)
  | n + 1, frm, l => match recE snap frm l with
    | .error c => .error c
    | .ok (r, l1) => match recsE snap n r.tk.toNat l1 with
      | .error c => .error c
      | .ok (rs, l2) => .ok (r :: rs, l2)
/-- What stands behind records read so far. -/
def tailE (snap : Nat) (acc : List Rec) : Except Int (List Rec × List UInt8) → Except Int Tp
  | .error c => .error c
  | .ok (rs, l) => if l = [] then .ok ⟨snap, acc ++ rs⟩ else .error 21
def markB : List UInt8 := [116, 97, 112, 101]
def readE (b : List UInt8) : Except Int Tp :=
  if b.length < 4 then .error 20 else if b.take 4 ≠ markB then .error 50 else
  match getV (b.drop 4) 1 1 1 with
  | .error c => .error c
  | .ok (_, l1) => match getV l1 4 0 65575 with
    | .error c => .error c
    | .ok (sn, l2) => match getV l2 4 0 4096 with
      | .error c => .error c
      | .ok (ct, l3) => tailE sn [] (recsE sn ct 0 l3)
/-- What Read answers. -/
def readV8 (b : List UInt8) : Tp × Int := match readE b with
  | .ok t => (t, 0)
  | .error c => (⟨0, []⟩, c)
theorem wrap_nat {v : Nat} (h : v < 9223372036854775808) : wrap64 (v : Int) = v := by unfold wrap64; omega
theorem fieldS_stay {e : Int} (he : e ≠ 0) (l : List UInt8) (n least most : Nat) : fieldS l e n least most = (0, l, e) := by
  unfold fieldS takeS
  rw [if_pos he]
  simp only
  rw [if_neg (fun h => he h.1), show wrap64 ((beV [] : Nat) : Int) = 0 from by rw [show beV [] = 0 from rfl]; exact wrap_nat (by omega)]
theorem fieldS_err {l : List UInt8} {n least most : Nat} {c : Int} (h : getV l n least most = .error c) : (fieldS l 0 n least most).2.2 = c ∧ c ≠ 0 := by
  unfold getV at h
  unfold fieldS takeS
  rw [if_neg (by simp)]
  by_cases h1 : l.length < n
  · rw [if_pos h1] at h ⊢
    injection h with h
    subst h
    simp
  · rw [if_neg h1] at h ⊢
    by_cases h2 : beV (l.take n) < least ∨ most < beV (l.take n)
    · rw [if_pos h2] at h
      injection h with h
      subst h
      simp [h2]
    · rw [if_neg h2] at h; cases h
theorem fieldS_ok {l l' : List UInt8} {n least most v : Nat} (h : getV l n least most = .ok (v, l')) : fieldS l 0 n least most = (wrap64 v, l', 0) ∧ least ≤ v ∧ v ≤ most ∧ l' = l.drop n ∧ l.length = n + l'.length := by
  unfold getV at h
  unfold fieldS takeS
  rw [if_neg (by simp)]
  by_cases h1 : l.length < n
  · rw [if_pos h1] at h; cases h
  · rw [if_neg h1] at h ⊢
    by_cases h2 : beV (l.take n) < least ∨ most < beV (l.take n)
    · rw [if_pos h2] at h; cases h
    · rw [if_neg h2] at h
      injection h with h
      injection h with h3 h4
      subst h3; subst h4
      refine ⟨?_, by omega, by omega, rfl, by rw [List.length_drop]; omega⟩
      simp only
      rw [if_neg (fun h => h2 h.2)]
/-- One field more, told as getV tells it. -/
theorem field_two {l l' : List UInt8} {e e' v : Int} {n least most : Nat} (h : fieldS l e n least most = (v, l', e')) (hm : most < 9223372036854775808) :
    (e ≠ 0 ∧ v = 0 ∧ l' = l ∧ e' = e) ∨ (e = 0 ∧ e' ≠ 0 ∧ getV l n least most = .error e') ∨ (e = 0 ∧ e' = 0 ∧ ∃ k : Nat, v = k ∧ least ≤ k ∧ k ≤ most ∧ getV l n least most = .ok (k, l')) := by
  by_cases he : e = 0
  · subst he
    cases hg : getV l n least most with
    | error c =>
      obtain ⟨h1, h2⟩ := fieldS_err hg
      rw [h] at h1
      simp only at h1
      subst h1
      exact .inr (.inl ⟨rfl, h2, rfl⟩)
    | ok q =>
      obtain ⟨k, l1⟩ := q
      obtain ⟨h1, h2, h3, _⟩ := fieldS_ok hg
      rw [h] at h1
      injection h1 with h4 h5
      injection h5 with h5 h6
      subst h5; subst h6
      exact .inr (.inr ⟨rfl, rfl, k, by rw [h4, wrap_nat (by omega)], h2, h3, rfl⟩)
  · rw [fieldS_stay he] at h
    injection h with h1 h2
    injection h2 with h2 h3
    exact .inl ⟨he, h1.symm, h2.symm, h3.symm⟩
/-- The front of a tape's bytes. -/
theorem head_link {b f0 l0 l1 l2 l3 : List UInt8} {e0 v1 e1 sn e2 ct e3 : Int} (h0 : takeS b 0 4 = (f0, l0, e0)) (hm : ¬ (e0 = 0 ∧ f0 ≠ markB)) (h1 : fieldS l0 e0 1 1 1 = (v1, l1, e1)) (h2 : fieldS l1 e1 4 0 65575 = (sn, l2, e2)) (h3 : fieldS l2 e2 4 0 4096 = (ct, l3, e3)) :
    (e3 = 0 → ∃ s c : Nat, sn = s ∧ s ≤ 65575 ∧ ct = c ∧ c ≤ 4096 ∧ readE b = tailE s [] (recsE s c 0 l3)) ∧ (e3 ≠ 0 → readE b = .error e3) := by
  have k1 := field_two h1 (by omega)
  have k2 := field_two h2 (by omega)
  have k3 := field_two h3 (by omega)
  unfold takeS at h0
  rw [if_neg (by simp)] at h0
  unfold readE
  by_cases hb : b.length < 4
  · rw [if_pos hb] at h0
    injection h0 with h4 h5
    injection h5 with h5 h6
    have he1 : e1 = 20 := by rcases k1 with ⟨_, _, _, h⟩ | ⟨h, _⟩ | ⟨h, _⟩ <;> omega
    have he2 : e2 = 20 := by rcases k2 with ⟨_, _, _, h⟩ | ⟨h, _⟩ | ⟨h, _⟩ <;> omega
    have he3 : e3 = 20 := by rcases k3 with ⟨_, _, _, h⟩ | ⟨h, _⟩ | ⟨h, _⟩ <;> omega
    rw [if_pos hb, he3]
    exact ⟨fun h => absurd h (by decide), fun _ => rfl⟩
  · rw [if_neg hb] at h0
    injection h0 with h4 h5
    injection h5 with h5 h6
    subst h4; subst h5; subst h6
    have hm2 : b.take 4 = markB := by
      by_cases h : b.take 4 = markB
      · exact h
      · exact absurd ⟨rfl, h⟩ hm
    rw [if_neg hb, if_neg (by rw [hm2]; simp)]
    rcases k1 with ⟨h, _⟩ | ⟨_, q1, q2⟩ | ⟨_, q1, k, _, _, _, q2⟩
    · exact absurd rfl h
    · have he2 : e2 = e1 := by rcases k2 with ⟨_, _, _, h⟩ | ⟨h, _⟩ | ⟨h, _⟩ <;> omega
      have he3 : e3 = e1 := by rcases k3 with ⟨_, _, _, h⟩ | ⟨h, _⟩ | ⟨h, _⟩ <;> omega
      rw [q2, he3]
      exact ⟨fun h => absurd h q1, fun _ => rfl⟩
    · rw [q2]
      simp only
      rcases k2 with ⟨h, _⟩ | ⟨_, q3, q4⟩ | ⟨_, q3, s, hs, _, hs2, q4⟩
      · exact absurd q1 h
      · have he3 : e3 = e2 := by rcases k3 with ⟨_, _, _, h⟩ | ⟨h, _⟩ | ⟨h, _⟩ <;> omega
        rw [q4, he3]
        exact ⟨fun h => absurd h q3, fun _ => rfl⟩
      · rw [q4]
        simp only
        rcases k3 with ⟨h, _⟩ | ⟨_, q5, q6⟩ | ⟨_, q5, c, hc, _, hc2, q6⟩
        · exact absurd q3 h
        · rw [q6]
          exact ⟨fun h => absurd h q5, fun _ => rfl⟩
        · rw [q6]
          exact ⟨fun _ => ⟨s, c, hs, hs2, hc, hc2, rfl⟩, fun h => absurd q5 h⟩
/-- A record's fields. -/
theorem rec_link {l l1 l2 l3 l4 : List UInt8} {tk nd o lg e1 e2 e3 e4 : Int} {frm snap : Nat} (h1 : fieldS l 0 8 frm 1099511627776 = (tk, l1, e1)) (h2 : fieldS l1 e1 1 0 15 = (nd, l2, e2)) (h3 : fieldS l2 e2 1 0 1 = (o, l3, e3)) (h4 : fieldS l3 e3 4 0 65575 = (lg, l4, e4)) :
    (e4 ≠ 0 → recE snap frm l = .error e4) ∧ (e4 = 0 → ∃ t g : Nat, tk = t ∧ frm ≤ t ∧ t ≤ 1099511627776 ∧ lg = g ∧ g ≤ 65575 ∧ recE snap frm l = if l4.length < min g snap then .error 20 else .ok (⟨tk, nd, o == 1, lg, l4.take (min g snap)⟩, l4.drop (min g snap))) := by
  have k1 := field_two h1 (by omega)
  have k2 := field_two h2 (by omega)
  have k3 := field_two h3 (by omega)
  have k4 := field_two h4 (by omega)
  unfold recE
  rcases k1 with ⟨h, _⟩ | ⟨_, q1, r1⟩ | ⟨_, q1, t, ht, ht1, ht2, r1⟩
  · exact absurd rfl h
  · have he2 : e2 = e1 := by rcases k2 with ⟨_, _, _, h⟩ | ⟨h, _⟩ | ⟨h, _⟩ <;> omega
    have he3 : e3 = e1 := by rcases k3 with ⟨_, _, _, h⟩ | ⟨h, _⟩ | ⟨h, _⟩ <;> omega
    have he4 : e4 = e1 := by rcases k4 with ⟨_, _, _, h⟩ | ⟨h, _⟩ | ⟨h, _⟩ <;> omega
    rw [r1, he4]
    exact ⟨fun _ => rfl, fun h => absurd h q1⟩
  · rw [r1]
    simp only
    rcases k2 with ⟨h, _⟩ | ⟨_, q2, r2⟩ | ⟨_, q2, n2, hn2, _, _, r2⟩
    · exact absurd q1 h
    · have he3 : e3 = e2 := by rcases k3 with ⟨_, _, _, h⟩ | ⟨h, _⟩ | ⟨h, _⟩ <;> omega
      have he4 : e4 = e2 := by rcases k4 with ⟨_, _, _, h⟩ | ⟨h, _⟩ | ⟨h, _⟩ <;> omega
      rw [r2, he4]
      exact ⟨fun _ => rfl, fun h => absurd h q2⟩
    · rw [r2]
      simp only
      rcases k3 with ⟨h, _⟩ | ⟨_, q3, r3⟩ | ⟨_, q3, n3, hn3, _, hn31, r3⟩
      · exact absurd q2 h
      · have he4 : e4 = e3 := by rcases k4 with ⟨_, _, _, h⟩ | ⟨h, _⟩ | ⟨h, _⟩ <;> omega
        rw [r3, he4]
        exact ⟨fun _ => rfl, fun h => absurd h q3⟩
      · rw [r3]
        simp only
        rcases k4 with ⟨h, _⟩ | ⟨_, q4, r4⟩ | ⟨_, q4, g, hg, _, hg2, r4⟩
        · exact absurd q3 h
        · rw [r4]
          exact ⟨fun _ => rfl, fun h => absurd h q4⟩
        · rw [r4]
          refine ⟨fun h => absurd q4 h, fun _ => ⟨t, g, ht, ht1, ht2, hg, hg2, ?_⟩⟩
          simp only
          have ho : (n3 == 1) = (o == 1) := by
            rw [hn3]
            rcases (show n3 = 0 ∨ n3 = 1 by omega) with rfl | rfl <;> rfl
          rw [ho, ht, hn2, hg]
theorem TO.step2 {V2 w1 : World} {B b g cap n N : Nat} {v : Value} {l : List Rec} {ds : List Value} (h : TO V2 B v l ds) (hn : l.length = n) (hN : ∀ x ∈ ds, ∀ k, x.ownBlock = some k → k < N) (hBN : B ≤ N) (hb : b < B) (r : Rec) (d : Value)
    (hd : V2.ownsRow N 5 1 d r.data.length (Lib.byteCells r.data)) (cs : Array Value) (hown : w1.ownsRow B 48 5 (.slice (some ⟨g, 0, none⟩) (n + 1) cap) (n + 1) (cellsR l ds ++ recC r d))
    (hg : (v.ownBlock = some g ∧ (V2.alloc (.cells cs 48)).grownBy w1 (some g)) ∨ (g = (V2.alloc (.cells cs 48)).heap.size ∧ (V2.alloc (.cells cs 48)).grownBy w1 none)) :
    Hid (TO (w1.setCell ⟨b, 1, none⟩ (.slice (some ⟨g, 0, none⟩) (n + 1) cap)) B (.slice (some ⟨g, 0, none⟩) (n + 1) cap) (l ++ [r]) (ds ++ [d])) ∧ Hid (Fr (Sb b B) V2 (w1.setCell ⟨b, 1, none⟩ (.slice (some ⟨g, 0, none⟩) (n + 1) cap))) ∧
      (∀ t s, Blk V2 b t #[s, v] → Hid (Blk (w1.setCell ⟨b, 1, none⟩ (.slice (some ⟨g, 0, none⟩) (n + 1) cap)) b t #[s, .slice (some ⟨g, 0, none⟩) (n + 1) cap])) := by
  have hA : Below V2.heap.size V2 (V2.alloc (.cells cs 48)) := (Below.refl _ _).alloc (Nat.le_refl _) _
  have ap : Ap v (V2.alloc (.cells cs 48)) (.slice (some ⟨g, 0, none⟩) (n + 1) cap) w1 := Ap.row hg
  have h1 := h.later hA
  have hne : ∀ {x : Value} {m : Nat} {xs : List Value}, (V2.alloc (.cells cs 48)).ownsRow B 5 1 x m xs → w1.ownsRow B 5 1 x m xs := fun {x m xs} hx => ap.fr.own hx fun k h2 h3 => own_types hx h1.own rec_u8 k h2 h3
  have ht : TO w1 B (.slice (some ⟨g, 0, none⟩) (n + 1) cap) (l ++ [r]) (ds ++ [d]) := by
    refine ⟨by rw [List.length_append, cellsR_snoc r d l ds h.len, hn]; exact hown, by simp [h.len], fun i q x hq hx => ?_, ?_⟩
    · by_cases hi : i < l.length
      · rw [List.getElem?_append_left hi] at hq
        rw [List.getElem?_append_left (by rw [h.len]; exact hi)] at hx
        exact hne (h1.data i q x hq hx)
      · rw [List.getElem?_append_right (by omega)] at hq
        rw [List.getElem?_append_right (by rw [h.len]; omega), h.len] at hx
        obtain ⟨e1, e2⟩ : i - l.length = 0 ∧ q = r := by
          rcases hk : i - l.length with _ | k
          · rw [hk] at hq; simpa [eq_comm] using hq
          · rw [hk] at hq; simp at hq
        rw [e1] at hx
        simp at hx
        subst hx; subst e2
        exact hne (own_base (own_later hd hA) hBN)
    · rw [List.pairwise_append]
      refine ⟨h.dj, List.pairwise_singleton _ _, fun x hx y hy k h2 h3 => ?_⟩
      rw [List.mem_singleton.1 hy] at h3
      have h4 := hN x hx k h2
      have h5 := hd.lt k h3
      omega
  have hf : Fr (Sb b B) V2 w1 := (Fr.of hA).step ap.fr fun k _ e => .inr (own_ge h.own k e)
  refine ⟨Lib.hid (ht.fr fr_set (fun k hk e => ?_) (fun x hx k hk e => ?_)), Lib.hid (hf.step fr_set fun k _ e => .inl e), fun t s hblk => Lib.hid ?_⟩
  · have := own_ge ht.own k hk; omega
  · have := (ht.dlt hx k hk).1; omega
  · have h2 : Blk w1 b t #[s, v] := ap.blk (hblk.later hA hblk.lt) fun e => by have := own_ge h.own _ e; omega
    exact h2.set_ 1 _
end Go.Proofs.YtpciggnanlflkaaGreatDoor.Ad
