/- Contracts of the law's own same and own. Conditions: addresses have sixteen bytes, numbers lie within 64 bits, at most 1048576 routes. -/
import Derived.Test.YtpaplobjmmpliaaDoorRj
namespace Go.Proofs.YtpaplobjmmpliaaDoor.Ad
set_option linter.unusedVariables false
set_option linter.unusedSimpArgs false
open Go.RowKit Go.Maps W
theorem equal_rt (d : Nat) (a c : Rt) (ha : a.ok) (hc : c.ok) (w : World) : (Op.equalIn (d + 4) 44 (.agg a.vals.toArray) (.agg c.vals.toArray)).run Tryd.prog w = .ok (decide (a = c)) w := by
  have hf : (Tryd.prog.fieldsOf 44).toList.map (fun f => (f.name != "_", f.type, f.offset)) = [(true, 35, 0), (true, 3, 17), (true, 3, 18)] := by kernel_rfl
  rw [run_equalIn_struct w (d + 3) 44 a.vals.toArray c.vals.toArray (by kernel_rfl) (by kernel_rfl)]
  generalize (Tryd.prog.fieldsOf 44).toList = fs at hf
  obtain ⟨f1, f2, f3, rfl⟩ : ∃ f1 f2 f3, fs = [f1, f2, f3] := by
    rcases fs with _ | ⟨f1, _ | ⟨f2, _ | ⟨f3, _ | ⟨f4, fs⟩⟩⟩⟩
    · simp at hf
    · simp at hf
    · simp at hf
    · exact ⟨f1, f2, f3, rfl⟩
    · simp at hf
  simp only [List.map_cons, List.map_nil, List.cons.injEq, Prod.mk.injEq, and_true] at hf
  obtain ⟨⟨n1, t1, o1⟩, ⟨n2, t2, o2⟩, n3, t3, o3⟩ := hf
  have n1' : f1.name ≠ "_" := bne_iff_ne.1 n1
  have n2' : f2.name ≠ "_" := bne_iff_ne.1 n2
  have n3' : f3.name ≠ "_" := bne_iff_ne.1 n3
  have g1 : ∀ (x : Rt) (hx : x.ok) w, (part 35 x.vals.toArray 0).run Tryd.prog w = .ok (.agg x.net.cells) w := fun x hx w => by
    have h2 : (isAgg 35).run Tryd.prog w = .ok true w := by kernel_rfl
    have h3 : (sizeOf 35).run Tryd.prog w = .ok 17 w := by kernel_rfl
    unfold part; rw [Sem.run_bind, h2]
    simp only [Result.andThen_ok, if_true, Sem.run_bind, h3, Sem.run_pure]
    have : x.vals.toArray.extract 0 (0 + 17) = x.net.cells := by
      apply Array.toList_inj.1
      simp only [Rt.vals, cells_vals, Array.toList_extract, List.extract_eq_take_drop, List.drop_zero]
      rw [Nat.sub_zero, Nat.zero_add, ← avals_len hx]; exact List.take_left
    rw [this]
  have g2 : ∀ (x : Rt) (hx : x.ok) w, (part 3 x.vals.toArray 17).run Tryd.prog w = .ok (.int .i64 x.bits) w := fun x hx w => by
    have h2 : (isAgg 3).run Tryd.prog w = .ok false w := by kernel_rfl
    have h3 : x.vals[17]? = some (.int .i64 x.bits) := by
      simp only [Rt.vals]; rw [List.getElem?_append_right (by rw [avals_len hx]; omega), avals_len hx]; rfl
    unfold part; rw [Sem.run_bind, h2]
    simp [h3]
  have g3 : ∀ (x : Rt) (hx : x.ok) w, (part 3 x.vals.toArray 18).run Tryd.prog w = .ok (.int .i64 x.link) w := fun x hx w => by
    have h2 : (isAgg 3).run Tryd.prog w = .ok false w := by kernel_rfl
    have h3 : x.vals[18]? = some (.int .i64 x.link) := by
      simp only [Rt.vals]; rw [List.getElem?_append_right (by rw [avals_len hx]; omega), avals_len hx]; rfl
    unfold part; rw [Sem.run_bind, h2]
    simp [h3]
  have e1 := equal_ad d a.net c.net ha hc
  have e2 : ∀ w, (Op.equalIn (d + 3) 3 (.int .i64 a.bits) (.int .i64 c.bits)).run Tryd.prog w = .ok (a.bits == c.bits) w := fun w => run_equalIn_int w (d + 2) 3 .i64 .i64 _ _ Tryd.underlying3
  have e3 : ∀ w, (Op.equalIn (d + 3) 3 (.int .i64 a.link) (.int .i64 c.link)).run Tryd.prog w = .ok (a.link == c.link) w := fun w => run_equalIn_int w (d + 2) 3 .i64 .i64 _ _ Tryd.underlying3
  obtain ⟨b1, hb1⟩ : ∃ b, decide (a.net = c.net) = b := ⟨_, rfl⟩
  obtain ⟨b2, hb2⟩ : ∃ b, (a.bits == c.bits) = b := ⟨_, rfl⟩
  obtain ⟨b3, hb3⟩ : ∃ b, (a.link == c.link) = b := ⟨_, rfl⟩
  have hd : decide (a = c) = (b1 && b2 && b3) := by
    rw [← hb1, ← hb2, ← hb3, Bool.eq_iff_iff]
    simp only [decide_eq_true_eq, Bool.and_eq_true, beq_iff_eq]
    constructor
    · rintro rfl; exact ⟨⟨rfl, rfl⟩, rfl⟩
    · rintro ⟨⟨h1, h2⟩, h3⟩
      cases a; cases c
      simp only at h1 h2 h3
      rw [h1, h2, h3]
  rw [hb1] at e1
  rw [hb2] at e2
  rw [hb3] at e3
  rw [hd]
  clear hb1 hb2 hb3 hd
  simp only [Op.eqFields, t1, t2, t3, o1, o2, o3, if_pos n1', if_pos n2', if_pos n3', ne_eq, n1', n2', n3', not_false_eq_true, if_true, Sem.run_bind, g1 a ha, g1 c hc, Result.andThen_ok, e1]
  cases b1
  · simp
  · simp only [Bool.not_true, Bool.false_eq_true, if_false, Sem.run_bind, g2 a ha, g2 c hc, Result.andThen_ok, e2]
    cases b2
    · simp
    · simp only [Bool.not_true, Bool.false_eq_true, if_false, Sem.run_bind, g3 a ha, g3 c hc, Result.andThen_ok, e3]
      cases b3 <;> simp
theorem neq_rt (a c : Rt) (ha : a.ok) (hc : c.ok) (w : World) : (binOp .neq 44 (.agg a.vals.toArray) (.agg c.vals.toArray)).run Tryd.prog w = .ok (.bool (!decide (a = c))) w := by
  have h := equal_rt 9996 a c ha hc w
  rw [deep _ 10000 (by omega)] at h
  rw [run_neq_struct, h]; rfl
set_option maxRecDepth 100000 in
set_option maxHeartbeats 4000000 in
theorem same_calls {l m : List Rt} (hl : ∀ r ∈ l, r.wf) (hm : ∀ r ∈ m, r.wf) (hb : l.length ≤ 1048576) (p : Option Go.Addr) (c : Nat) (q : Option Go.Addr) (d : Nat) (w : World) (hp : At w p l) (hq : At w q m) :
    Calls Tryd.prog 15 #[.slice p l.length c, .slice q m.length d] w fun e w' => e = .returned (.bool (decide (l = m))) ∧ Below w.heap.size w w' := by
  have HP := Lib.hid hp
  have HQ := Lib.hid hq
  have HL := Lib.hid hl
  have HM := Lib.hid hm
  clear hp hq hl hm
  by_cases hlen : l.length = m.length
  · obtain ⟨n, hn⟩ : ∃ n, l.length = n := ⟨_, rfl⟩
    have HN := Lib.hid hn
    have HNM : Hid (m.length = n) := Lib.hid (by omega)
    obtain ⟨b, hbb⟩ : ∃ b, decide (l = m) = b := ⟨_, rfl⟩
    have HBB := Lib.hid hbb
    rw [HNM.out, hn, hbb]
    rw [hn] at hb
    clear hlen hn hbb
    have e0 : ((n : Int) != (n : Int)) = false := bne_self_eq_false _
    go_enter Tryd.func15, Tryd.ntmps15
    go_wp2
    go_loopw [5] (fun u wr => ∃ k : Nat, u = .int .i64 k ∧ k ≤ n ∧ Hid (∀ j, j < k → l[j]? = m[j]?) ∧ Hid (Below w.heap.size w wr)) (fun u _ => n - (intOf u).toNat)
    case atStart => exact ⟨0, rfl, Nat.zero_le _, Lib.hid (fun j hj => absurd hj (Nat.not_lt_zero j)), Lib.hid (Below.refl _ _)⟩
    case round =>
      obtain ⟨k, rfl, hk, HE, HB⟩ := hrel
      by_cases hlt : k < n
      · have e1 : decide ((k : Int) < (n : Int)) = true := decide_eq_true (by omega)
        have e1' : decide (k < n) = true := decide_eq_true hlt
        have HK : Hid (k < l.length) := Lib.hid (by have := HN.out; omega)
        have HKM : Hid (k < m.length) := Lib.hid (by have := HNM.out; omega)
        obtain ⟨r, hr⟩ : ∃ r, l[k]? = some r := ⟨_, List.getElem?_eq_getElem HK.out⟩
        obtain ⟨q', hq'⟩ : ∃ r, m[k]? = some r := ⟨_, List.getElem?_eq_getElem HKM.out⟩
        have HR := Lib.hid hr
        have HQR := Lib.hid hq'
        have hwr := Lib.hid (HL.out r (List.mem_of_getElem? hr))
        have hwq := Lib.hid (HM.out q' (List.mem_of_getElem? hq'))
        have hap := HP.out.later HB.out
        have haq := HQ.out.later HB.out
        clear hr hq'
        rcases hap with hap | ⟨g, o, rfl, hgl, hh⟩
        · have := HK.out; rw [hap] at this; exact absurd this (Nat.not_lt_zero _)
        rcases haq with haq | ⟨g2, o2, rfl, hgl2, hh2⟩
        · have := HKM.out; rw [haq] at this; exact absurd this (Nat.not_lt_zero _)
        have HR1 := Lib.hid (hh k r HR.out)
        have HR2 := Lib.hid (hh2 k q' HQR.out)
        clear hh hgl hh2 hgl2
        have q1 : ∀ w, (binOp .neq 44 (.agg r.vals.toArray) (.agg q'.vals.toArray)).run Tryd.prog w = .ok (.bool (!decide (r = q'))) w := fun w => neq_rt r q' hwr.out.ok hwq.out.ok w
        go_upto_region 6 with fail
        by_cases hrq : r = q'
        · rw [decide_eq_true hrq] at q1
          have HN2 : Hid (∀ j, j < k + 1 → l[j]? = m[j]?) := Lib.hid fun j hj => by
            by_cases e : j = k
            · subst e; rw [HR.out, HQR.out, hrq]
            · exact HE.out j (by omega)
          clear hrq
          refine region_later (by kernel_rfl) (by kernel_rfl) ?_
          repeat (first | go_big_quiet_skip | (go_big_quiet_want; first | (refine quiet_at 44 _ rfl g (o + k * 19) r.vals _ rfl HR1.out Tryd.underlying44 rfl (by as_aux_lemma => exact rsz hwr.out.ok) ?_; simp only [Act.put, List.setIfInBounds_toArray, List.set_cons_zero, List.set_cons_succ]; go_big_quiet_on) | (refine quiet_at 44 _ rfl g2 (o2 + k * 19) q'.vals _ rfl HR2.out Tryd.underlying44 rfl (by as_aux_lemma => exact rsz hwq.out.ok) ?_; simp only [Act.put, List.setIfInBounds_toArray, List.set_cons_zero, List.set_cons_succ]; go_big_quiet_on) | (go_big_quiet_op; first | go_big_quiet_on | go_big_quiet_call (fail))))
          refine wpQuiet_nil ?_
          intro z hz
          have HB := Lib.hid (HB.out.trans (hz.mono HB.out.size))
          clear hz
          go_wp2
          exact ⟨⟨k + 1, by go_num, by omega, HN2, HB⟩, by simp [intOf]; omega⟩
        · rw [decide_eq_false hrq] at q1
          have HF : Hid (b = false) := Lib.hid (by
            rw [← HBB.out]
            refine decide_eq_false fun h => hrq ?_
            have := HR.out
            rw [h, HQR.out] at this
            exact (Option.some.inj this).symm)
          clear hrq
          refine region_later (by kernel_rfl) (by kernel_rfl) ?_
          repeat (first | go_big_quiet_skip | (go_big_quiet_want; first | (refine quiet_at 44 _ rfl g (o + k * 19) r.vals _ rfl HR1.out Tryd.underlying44 rfl (by as_aux_lemma => exact rsz hwr.out.ok) ?_; simp only [Act.put, List.setIfInBounds_toArray, List.set_cons_zero, List.set_cons_succ]; go_big_quiet_on) | (refine quiet_at 44 _ rfl g2 (o2 + k * 19) q'.vals _ rfl HR2.out Tryd.underlying44 rfl (by as_aux_lemma => exact rsz hwq.out.ok) ?_; simp only [Act.put, List.setIfInBounds_toArray, List.set_cons_zero, List.set_cons_succ]; go_big_quiet_on) | (go_big_quiet_op; first | go_big_quiet_on | go_big_quiet_call (fail))))
          refine wpQuiet_nil ?_
          intro z hz
          have HB := Lib.hid (HB.out.trans (hz.mono HB.out.size))
          clear hz
          go_wp2
          go_ret
          exact ⟨by rw [HF.out]; rfl, HB.out⟩
      · have e1 : decide ((k : Int) < (n : Int)) = false := decide_eq_false (by omega)
        have e1' : decide (k < n) = false := decide_eq_false hlt
        have HT : Hid (b = true) := Lib.hid (by
          rw [← HBB.out]
          refine decide_eq_true (List.ext_getElem? fun j => ?_)
          by_cases hj : j < k
          · exact HE.out j hj
          · rw [List.getElem?_eq_none (by have := HN.out; omega), List.getElem?_eq_none (by have := HNM.out; omega)])
        clear hlt
        go_wp2
        go_ret
        exact ⟨by rw [HT.out]; rfl, HB.out⟩
  · have HF : Hid (decide (l = m) = false) := Lib.hid (decide_eq_false fun h => hlen (by rw [h]))
    have e0 : ((l.length : Int) != (m.length : Int)) = true := bne_iff_ne.2 (by omega)
    have e0' : (l.length != m.length) = true := bne_iff_ne.2 hlen
    rw [HF.out]
    clear hlen
    go_enter Tryd.func15, Tryd.ntmps15
    go_wp2
    go_ret
    exact ⟨rfl, Below.refl _ _⟩
set_option maxRecDepth 100000 in
set_option maxHeartbeats 4000000 in
theorem own_calls {l : List Rt} (hl : ∀ r ∈ l, r.ok) (hb : l.length ≤ 1048576) (p : Option Go.Addr) (c : Nat) (w : World) (hp : At w p l) (hn : p = none → c = 0) : Calls Tryd.prog 10 #[.slice p l.length c] w fun e w' =>
    ∃ p' c', e = .returned (.slice p' l.length c') ∧ AtS w' p' l ∧ (∀ a, p' = some a → w.heap.size ≤ a.block) ∧ Below w.heap.size w w' := by
  obtain ⟨i0, hi, hz0, hz1, hz2⟩ := info_parts (show (Tryd.prog.info? 44).map (fun i => (i.zero, i.size, i.bytes)) = some (some (.agg zeroRt.cells), 19, 40) by kernel_rfl)
  have HC : Hid (∀ ad, p = some ad → ∀ j u, (flat l)[j]? = some u → w.cell? (ad.add j) = some u) := Lib.hid fun ad had j u hu => by
    rcases hp with h | ⟨g, o, h1, h2, h3⟩
    · subst h; cases hu
    · rw [h1] at had; injection had with had; subst had
      rw [Addr.add_lit]
      exact has_cells hl h3 j u hu
  have HF := Lib.hid (flat_len hl)
  have HL := Lib.hid hl
  cases p with
  | none =>
    obtain rfl := hn rfl
    obtain rfl : l = [] := by
      rcases hp with h | ⟨g, o, h1, _⟩
      · exact h
      · cases h1
    go_enter Tryd.func10, Tryd.ntmps10
    go_wp2_with (at_builtin; refine wpList_append_own_none rfl _ _ 22 rfl w.heap.size 44 i0 19 Tryd.underlying22 hi _ 0 [] rfl (World.ownsRow_nil _ _ _ _) rfl ?_)
    go_ret
    exact ⟨none, ⟨0, rfl⟩, .inl ⟨rfl, rfl⟩, (fun a ha => by cases ha), Below.refl _ _⟩
  | some ad =>
    obtain ⟨n, hnn⟩ : ∃ n, l.length = n := ⟨_, rfl⟩
    rw [hnn] at HF hb ⊢
    have HN := Lib.hid hnn
    clear hp hl hn hnn
    go_enter Tryd.func10, Tryd.ntmps10
    go_wp2_with (at_builtin; refine wpList_append_own _ rfl _ _ 22 rfl w.heap.size 44 i0 _ 19 40 Tryd.underlying22 hi hz0 hz1 hz2 (by rfl) (by omega) _ 0 [] rfl (World.ownsRow_nil _ _ _ _) ad n c (flat l) rfl HF.out (HC.out ad rfl) (flat_one l) (by unfold maxLen; omega) (by omega) (Nat.le_refl _) ?_; intro v' w1 hown hgrow hnil)
    go_ret
    obtain ⟨p', c', rfl, h1, h2⟩ := row_ats (w := w1) (B := w.heap.size) (n := 0) (v := v') HL.out (by rw [HN.out]; simpa using hown)
    rw [HN.out]
    exact ⟨p', c', rfl, h1, h2, (Below.refl _ w).grown hgrow (Nat.le_refl _) (by intro k hk; cases hk)⟩
end Go.Proofs.YtpaplobjmmpliaaDoor.Ad
