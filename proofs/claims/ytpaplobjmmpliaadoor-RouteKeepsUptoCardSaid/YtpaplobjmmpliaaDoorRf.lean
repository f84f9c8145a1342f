/- Contracts of route.sorted, route.New and All. Conditions: addresses have sixteen bytes, numbers lie within 64 bits. -/
import Derived.Test.YtpaplobjmmpliaaDoorRe
namespace Go.Proofs.YtpaplobjmmpliaaDoor.Ad
set_option linter.unusedVariables false
set_option linter.unusedSimpArgs false
open Go.RowKit Go.Maps W
theorem may_32 {l : List Rt} (h : mayV l = true) : l.length ≤ 32 := ((mayV_iff l).1 h).1
theorem may_good {l : List Rt} (h : mayV l = true) : goodTo l l.length := ((mayV_iff l).1 h).2
theorem sortV_len (l : List Rt) : (sortV l).length = l.length := by unfold sortV; simp [List.length_mergeSort]
/-- The row of a clone, as a slice. -/
theorem row_ats {w : World} {B n : Nat} {v : Value} {l : List Rt} (hok : ∀ r ∈ l, r.ok) (h : w.ownsRow B 44 19 v l.length (flat l)) :
    ∃ p c, v = .slice p l.length c ∧ AtS w p l ∧ (∀ a, p = some a → B ≤ a.block) := by
  rcases h.2 with ⟨e0, hn⟩ | ⟨g, cap, cur, e0, hb, hg, hn, hm, hs, ht⟩
  · obtain rfl : l = [] := List.eq_nil_of_length_eq_zero hn
    exact ⟨none, 0, e0, .inl ⟨rfl, rfl⟩, fun a ha => by cases ha⟩
  · refine ⟨_, cap, e0, .inr ⟨g, 0, rfl, (Array.getElem?_eq_some_iff.1 hg).1, cells_has hok fun j u hu => ?_⟩, fun a ha => by injection ha with ha; subst ha; exact hb⟩
    have hj : j < l.length * 19 := by have := (List.getElem?_eq_some_iff.1 hu).1; rwa [flat_len hok] at this
    have e2 : (cur.toList.take (l.length * 19))[j]? = (flat l)[j]? := by rw [ht]
    rw [List.getElem?_take, if_pos hj, Array.getElem?_toList] at e2
    simp only [World.cell?, hg, Nat.zero_add, Option.isSome_none, Bool.false_eq_true, if_false]
    rw [e2, hu]
set_option maxRecDepth 100000 in
set_option maxHeartbeats 4000000 in
theorem sorted_calls {l : List Rt} (hl : ∀ r ∈ l, r.wf) (hm : mayV l = true) (p : Option Go.Addr) (c : Nat) (w : World) (hp : AtS w p l) : Calls Tryd.prog 25 #[.slice p l.length c] w fun e w' =>
    ∃ p' c', e = .returned (.slice p' l.length c') ∧ AtS w' p' (sortV l) ∧ (∀ a, p' = some a → w.heap.size ≤ a.block) ∧ Below w.heap.size w w' := by
  have HP := Lib.hid hp
  have HL := Lib.hid hl
  have HM := Lib.hid hm
  obtain ⟨n, hn⟩ : ∃ n, l.length = n := ⟨_, rfl⟩
  have HN := Lib.hid hn
  have HC := Lib.hid (clone_calls hl (may_32 hm) p c w hp)
  rw [hn] at HC
  rw [hn]
  clear hp hl hm
  go_enter Tryd.func25, Tryd.ntmps25
  go_upto_region 2 with (go_at_call 31; refine HC.out.mono ?_; rintro e W1 ⟨v, rfl, ho, hB⟩)
  have HO := Lib.hid ho
  have HB := Lib.hid hB
  clear ho hB HC
  rcases HO.out.2 with ⟨rfl, hn0⟩ | ⟨g, cap, cur, rfl, hb, hg, hnc, hmx, hs, ht⟩
  · subst hn0
    clear hn
    go_wp2_with (go_at_call 43; refine (AnyF.slices_SortFunc_none Tryd.laySort none 0 _ _).mono ?_; rintro e W2 ⟨rfl, rfl⟩)
    go_ret
    exact ⟨none, 0, rfl, .inl ⟨rfl, List.eq_nil_of_length_eq_zero (by rw [sortV_len]; exact HN.out)⟩, (fun a ha => by cases ha), HB.out⟩
  · have HG : Hid (g < W1.heap.size ∧ w.heap.size ≤ g) := Lib.hid ⟨(Array.getElem?_eq_some_iff.1 hg).1, hb⟩
    clear hb hg hnc hmx hs ht
    by_cases h0 : n = 0
    · subst h0
      clear hn
      go_wp2_with (go_at_call 43; refine (AnyF.slices_SortFunc_none Tryd.laySort _ cap _ _).mono ?_; rintro e W2 ⟨rfl, rfl⟩)
      go_ret
      have e : sortV l = [] := List.eq_nil_of_length_eq_zero (by rw [sortV_len]; exact HN.out)
      exact ⟨_, cap, rfl, .inr ⟨g, 0, rfl, HG.out.1, by rw [e]; intro i r hr; cases hr⟩, fun a ha => by injection ha with ha; subst ha; exact HG.out.2, HB.out⟩
    · have HS := Lib.hid (sort_calls HL.out (may_good HM.out) (may_32 HM.out) (by intro h; rw [h] at hn; exact h0 hn.symm) w.heap.size g cap W1 (by rw [hn]; exact HO.out))
      rw [hn] at HS
      clear h0 hn HO
      go_wp2_with (go_at_call 43; refine HS.out.mono ?_; rintro e W2 ⟨rfl, hH, hlt, hbel⟩)
      go_ret
      exact ⟨_, cap, rfl, .inr ⟨g, 0, rfl, hlt, hH⟩, fun a ha => by injection ha with ha; subst ha; exact HG.out.2, hbel _ _ HB.out HG.out.2⟩
/-- A table in memory. -/
structure Tab (B : Nat) (w : World) (t : Value) (s : List Rt) : Prop where
  is : ∃ g p c, t = .pointer (some ⟨g, 0, none⟩) ∧ Blk w g 55 #[.slice p s.length c] ∧ AtS w p s ∧ B ≤ g ∧ (∀ a, p = some a → B ≤ a.block)
theorem Tab.later {B : Nat} {w w' : World} {t : Value} {s : List Rt} (h : Tab B w t s) (hb : Below w.heap.size w w') : Tab B w' t s := by
  obtain ⟨g, p, c, h1, h2, h3, h4, h5⟩ := h.is
  exact ⟨g, p, c, h1, h2.later hb h2.lt, h3.later hb, h4, h5⟩
theorem wpList_build1 {P : Program} {ops : Array Oper} {rest : List Oper} {o : Oper} {a : Act} {w : World} {Q : Exit → Act → World → Prop} (hg : o.guard = none) (t : TypeId) (i : Nat) (x : Operand) (ho : o.op = .build t #[(i, x)])
    (u : Value) (hx : a.eval x = u) (cells : Array Value) (hb : P.built t [(i, u)] = some cells)
    (h : wpList P ops Q rest (a.put o.dst (.agg cells)) w) : wpList P ops Q (o :: rest) a w :=
  wpList_build_as hg t _ ho [(i, u)] (by simp [hx]) cells hb h
set_option maxRecDepth 100000 in
set_option maxHeartbeats 4000000 in
theorem new_no {l : List Rt} (hl : ∀ r ∈ l, r.wf) (hm : mayV l = false) (p : Option Go.Addr) (c : Nat) (w : World) (hp : At w p l) : Calls Tryd.prog 9 #[.slice p l.length c] w fun e w' =>
    e = .returned (.tuple #[.pointer none, .int .i64 1]) ∧ Below w.heap.size w w' := by
  have HM := Lib.hid (may_calls hl p c w hp)
  rw [hm] at HM
  go_enter Tryd.func9, Tryd.ntmps9
  go_wp2_with (go_at_call 24; refine HM.out.mono ?_; rintro e W1 ⟨rfl, hB⟩)
  go_ret2
  exact ⟨rfl, hB⟩
set_option maxRecDepth 100000 in
set_option maxHeartbeats 4000000 in
theorem new_calls {l : List Rt} (hl : ∀ r ∈ l, r.wf) (hm : mayV l = true) (p : Option Go.Addr) (c : Nat) (w : World) (hp : AtS w p l) : Calls Tryd.prog 9 #[.slice p l.length c] w fun e w' =>
    ∃ t, e = .returned (.tuple #[t, .int .i64 0]) ∧ Tab w.heap.size w' t (sortV l) ∧ Below w.heap.size w w' := by
  have HM := Lib.hid (may_calls hl p c w hp.at)
  rw [hm] at HM
  have HS := Lib.hid (fun w' (hb : Below w.heap.size w w') => sorted_calls hl hm p c w' (hp.later hb))
  have HN := Lib.hid (sortV_len l)
  clear hp hl hm
  obtain ⟨n, hn⟩ : ∃ n, l.length = n := ⟨_, rfl⟩
  rw [hn] at HM HS HN ⊢
  go_enter Tryd.func9, Tryd.ntmps9
  go_upto_region 3 with (go_at_call 24; refine HM.out.mono ?_; rintro e W1 ⟨rfl, hB⟩)
  have HB := Lib.hid hB
  clear hB
  go_wp2_with (first | (go_at_call 25; refine (HS.out _ HB.out).mono ?_; rintro e W2 ⟨p', c', rfl, hA, hF, hB2⟩) | (refine wpList_build1 rfl 55 0 _ rfl (.slice p' n c') rfl #[.slice p' n c'] (by kernel_rfl) ?_))
  go_ret2
  have hB3 := (HB.out.trans (hB2.mono HB.out.size))
  refine ⟨_, rfl, ⟨W2.heap.size, p', c', rfl, by rw [HN.out]; exact Blk.new _ _ _, hA.later ((Below.refl _ _).alloc (Nat.le_refl _) _), hB3.size, fun a ha => Nat.le_trans HB.out.size (hF a ha)⟩, hB3.alloc hB3.size _⟩
set_option maxRecDepth 100000 in
set_option maxHeartbeats 4000000 in
theorem all_calls {s : List Rt} (hs : ∀ r ∈ s, r.wf) (h32 : s.length ≤ 32) (B : Nat) (t : Value) (w : World) (ht : Tab B w t s) : Calls Tryd.prog 16 #[t] w fun e w' =>
    ∃ p c, e = .returned (.slice p s.length c) ∧ AtS w' p s ∧ (∀ a, p = some a → w.heap.size ≤ a.block) ∧ Below w.heap.size w w' := by
  obtain ⟨g, p, c, rfl, hb, ha, _, _⟩ := ht.is
  have HC := Lib.hid (clone_calls hs h32 p c w ha)
  have HS := Lib.hid hs
  have c0 : w.cell? ⟨g, 0, none⟩ = some (.slice p s.length c) := by rw [hb.cell]; rfl
  clear ht ha hs hb
  go_enter Tryd.func16, Tryd.ntmps16
  go_wp2_with (go_at_call 31; refine HC.out.mono ?_; rintro e W1 ⟨v, rfl, ho, hB⟩)
  go_ret
  obtain ⟨p', c', rfl, h1, h2⟩ := row_ats (n := 0) (fun r hr => (HS.out r hr).ok) ho
  exact ⟨p', c', rfl, h1, h2, hB⟩
end Go.Proofs.YtpaplobjmmpliaaDoor.Ad
