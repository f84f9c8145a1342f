/- Contract of the reference's All. Conditions: addresses have sixteen bytes, numbers lie within 64 bits; the list is one that may be. -/
import Derived.Test.YtpaplobjmmpliaaGreatDoorRp
namespace Go.Proofs.YtpaplobjmmpliaaGreatDoor.Ad
set_option linter.unusedVariables false
set_option linter.unusedSimpArgs false
open Go.RowKit Go.Maps W
/-- Does x come behind the first k. -/
def bh (s : List Rt) (k : Nat) (x : Rt) : Bool := if k = 0 then true else match s[k - 1]? with
  | some z => z.ahead x
  | none => false
theorem bh_of {s : List Rt} {k : Nat} {x : Rt} (h : bh s k x = true) : ∀ z, 0 < k → s[k - 1]? = some z → z.ahead x = true := fun z h0 hz => by
  unfold bh at h; rw [if_neg (by omega), hz] at h; exact h
theorem bh_mk {s : List Rt} {k : Nat} {x : Rt} (hk : k ≤ s.length) (h : ∀ z, 0 < k → s[k - 1]? = some z → z.ahead x = true) : bh s k x = true := by
  unfold bh
  by_cases h0 : k = 0
  · rw [if_pos h0]
  · rw [if_neg h0]
    have h1 : s[k - 1]? = some (s[k - 1]'(by omega)) := List.getElem?_eq_getElem (by omega)
    rw [h1]; exact h _ (by omega) h1
/-- The best of the first i. -/
def Bst (l s : List Rt) (k i : Nat) (v : Int) : Prop :=
  (v = -1 ∧ ∀ j x, j < i → l[j]? = some x → bh s k x = false) ∨ ∃ b y, v = (b : Nat) ∧ b < i ∧ l[b]? = some y ∧ bh s k y = true ∧ ∀ j x, j < i → l[j]? = some x → bh s k x = true → x.ahead y = false
theorem Bst.zero (l s : List Rt) (k : Nat) : Bst l s k 0 (-1) := .inl ⟨rfl, fun j x h => absurd h (Nat.not_lt_zero j)⟩
theorem Bst.skip {l s : List Rt} {k i : Nat} {v : Int} {x : Rt} (h : Bst l s k i v) (hx : l[i]? = some x) (hb : bh s k x = false) : Bst l s k (i + 1) v := by
  rcases h with ⟨h1, h2⟩ | ⟨b, y, h1, h2, h3, h4, h5⟩
  · refine .inl ⟨h1, fun j q hj hq => ?_⟩
    by_cases e : j = i
    · subst e; rw [hx] at hq; injection hq with hq; subst hq; exact hb
    · exact h2 j q (by omega) hq
  · refine .inr ⟨b, y, h1, by omega, h3, h4, fun j q hj hq hbq => ?_⟩
    by_cases e : j = i
    · subst e; rw [hx] at hq; injection hq with hq; subst hq; rw [hb] at hbq; cases hbq
    · exact h5 j q (by omega) hq hbq
theorem Bst.first {l s : List Rt} {k i : Nat} {x : Rt} (h : ∀ j q, j < i → l[j]? = some q → bh s k q = false) (hx : l[i]? = some x) (hb : bh s k x = true) : Bst l s k (i + 1) (i : Nat) := by
  refine .inr ⟨i, x, rfl, by omega, hx, hb, fun j q hj hq hbq => ?_⟩
  by_cases e : j = i
  · subst e; rw [hx] at hq; injection hq with hq; subst hq; exact ahead_self _
  · rw [h j q (by omega) hq] at hbq; cases hbq
theorem Bst.keep {l s : List Rt} {k i b : Nat} {x y : Rt} (hbi : b < i) (hy : l[b]? = some y) (hby : bh s k y = true) (h : ∀ j q, j < i → l[j]? = some q → bh s k q = true → q.ahead y = false) (hx : l[i]? = some x) (ha : x.ahead y = false) : Bst l s k (i + 1) (b : Nat) := by
  refine .inr ⟨b, y, rfl, by omega, hy, hby, fun j q hj hq hbq => ?_⟩
  by_cases e : j = i
  · subst e; rw [hx] at hq; injection hq with hq; subst hq; exact ha
  · exact h j q (by omega) hq hbq
theorem Bst.turn {l s : List Rt} (hl : ∀ r ∈ l, r.ok) {k i b : Nat} {x y : Rt} (hy : l[b]? = some y) (h : ∀ j q, j < i → l[j]? = some q → bh s k q = true → q.ahead y = false) (hx : l[i]? = some x) (hb : bh s k x = true) (ha : x.ahead y = true) : Bst l s k (i + 1) (i : Nat) := by
  refine .inr ⟨i, x, rfl, by omega, hx, hb, fun j q hj hq hbq => ?_⟩
  by_cases e : j = i
  · subst e; rw [hx] at hq; injection hq with hq; subst hq; exact ahead_self _
  · have h1 := h j q (by omega) hq hbq
    cases h2 : q.ahead x with
    | false => rfl
    | true =>
      have := ahead_on (hl q (List.mem_of_getElem? hq)) (hl x (List.mem_of_getElem? hx)) (hl y (List.mem_of_getElem? hy)) h2 ha
      rw [h1] at this; cases this
theorem Bst.done {l s : List Rt} (hl : ∀ r ∈ l, r.ok) (hs : Sorted l s) {k : Nat} {v : Int} (hk : k < s.length) (h : Bst l s k l.length v) : ∃ b y, v = (b : Nat) ∧ b < l.length ∧ l[b]? = some y ∧ s[k]? = some y := by
  rcases h with ⟨_, h2⟩ | ⟨b, y, h1, h2, h3, h4, h5⟩
  · obtain ⟨z, hz⟩ : ∃ z, s[k]? = some z := ⟨_, List.getElem?_eq_getElem hk⟩
    obtain ⟨j, hj⟩ := List.mem_iff_getElem?.1 (hs.perm.subset (List.mem_of_getElem? hz))
    have := h2 j z (List.getElem?_eq_some_iff.1 hj).1 hj
    rw [bh_mk (by omega) fun x h0 hx => hs.at hx hz (by omega)] at this; cases this
  · refine ⟨b, y, h1, h2, h3, hs.next hl hk (List.mem_of_getElem? h3) (bh_of h4) fun q hq hqb => ?_⟩
    obtain ⟨j, hj⟩ := List.mem_iff_getElem?.1 hq
    exact h5 j q (List.getElem?_eq_some_iff.1 hj).1 hj (bh_mk (by omega) hqb)
def sLen : Value → Nat
  | .slice _ n _ => n
  | _ => 0
set_option maxRecDepth 100000 in
set_option maxHeartbeats 4000000 in
theorem rall_calls {l : List Rt} (hl : ∀ r ∈ l, r.wf) (hm : mayV l = true) (p : Option Go.Addr) (c : Nat) (w : World) (hp : At w p l) : Calls Tryz.prog 15 #[.slice p l.length c] w fun e w' =>
    ∃ p' c', e = .returned (.slice p' l.length c') ∧ AtS w' p' (sortV l) ∧ (∀ a, p' = some a → w.heap.size ≤ a.block) ∧ Below w.heap.size w w' := by
  have HP := Lib.hid hp
  have HL := Lib.hid hl
  have HS := Lib.hid (sortV_sorted (fun r hr => (hl r hr).ok) (may_good hm))
  have HSW := Lib.hid (sortV_wf hl)
  obtain ⟨s, hs⟩ : ∃ s, sortV l = s := ⟨_, rfl⟩
  rw [hs] at HS HSW ⊢
  obtain ⟨n, hn⟩ : ∃ n, l.length = n := ⟨_, rfl⟩
  have HN := Lib.hid hn
  have HSN : Hid (s.length = n) := Lib.hid (by rw [HS.out.len, hn])
  have hb32 : n ≤ 32 := by have := may_32 hm; omega
  rw [hn]
  obtain ⟨i0, hi, hz0, hz1, hz2⟩ := info_parts (show (Tryz.prog.info? 37).map (fun i => (i.zero, i.size, i.bytes)) = some (some (.agg zeroRt.cells), 19, 40) by kernel_rfl)
  clear hp hl hm hs hn
  go_enter Tryz.func15, Tryz.ntmps15
  go_wp2
  go_loopw [3, 4, 5, 6] (fun u3 _ _ _ wr => ∃ (k : Nat) (q : Option Go.Addr) (d : Nat), u3 = .slice q k d ∧ k ≤ n ∧ Hid (wr.ownsRow w.heap.size 37 19 (.slice q k d) k (flat (s.take k))) ∧ Hid (Below w.heap.size w wr)) (fun u3 _ _ _ _ => n - sLen u3)
  case atStart => exact ⟨0, none, 0, rfl, Nat.zero_le _, Lib.hid (World.ownsRow_nil _ _ _ _), Lib.hid (Below.refl _ _)⟩
  case round =>
    obtain ⟨k, q, d, rfl, hk, HO, HB⟩ := hrel
    by_cases hkn : k < n
    · have e0 : decide ((k : Int) < (n : Int)) = true := decide_eq_true (by omega)
      have e0' : decide (k < n) = true := decide_eq_true hkn
      have HKS := Lib.hid hkn
      obtain ⟨W0, rfl⟩ : ∃ W, W = wr := ⟨wr, rfl⟩
      go_wp2
      go_loopw [4, 5, 6] (fun u4 u5 _ w2 => ∃ (i : Nat) (v : Int), u5 = .int .i64 i ∧ u4 = .int .i64 v ∧ i ≤ n ∧ Hid (Bst l s k i v) ∧ Hid (Below W0.heap.size W0 w2)) (fun _ u5 _ _ => n - (intOf u5).toNat)
      case atStart => exact ⟨0, -1, rfl, rfl, Nat.zero_le _, Lib.hid (Bst.zero l s k), Lib.hid (Below.refl _ _)⟩
      case round =>
        obtain ⟨i, v, rfl, rfl, hin, HBS, HB2⟩ := hrel
        by_cases hlt : i < n
        · have e1 : decide ((i : Int) < (n : Int)) = true := decide_eq_true (by omega)
          have e1' : decide (i < n) = true := decide_eq_true hlt
          have HK : Hid (i < l.length) := Lib.hid (by have := HN.out; omega)
          obtain ⟨x, hx⟩ : ∃ r, l[i]? = some r := ⟨_, List.getElem?_eq_getElem HK.out⟩
          have HXI := Lib.hid hx
          have hxo := Lib.hid (HL.out x (List.mem_of_getElem? hx))
          have hap := HP.out.later (HB.out.trans (HB2.out.mono HB.out.size))
          have HO2 := Lib.hid (own_later HO.out HB2.out)
          clear hx
          rcases hap with hap | ⟨g, o, rfl, hgl, hh⟩
          · have := HK.out; rw [hap] at this; exact absurd this (Nat.not_lt_zero _)
          have HH := Lib.hid hh
          have HGL := Lib.hid hgl
          have HX := Lib.hid (hh i x HXI.out)
          clear hh hgl
          obtain ⟨bb, hbb⟩ : ∃ b, bh s k x = b := ⟨_, rfl⟩
          have HBH := Lib.hid hbb
          clear hbb
          go_upto_region 7 with fail
          go_cut [6] from 12 to 50 (fun u wx => u = .bool bb ∧ Below wr.heap.size wr wx)
          case first =>
            by_cases hk0 : k = 0
            · subst hk0
              have HT : Hid (bb = true) := Lib.hid (by rw [← HBH.out]; unfold bh; rw [if_pos rfl])
              refine region_later (by kernel_rfl) (by kernel_rfl) ?_
              repeat (first | go_big_quiet_skip | (go_big_quiet_want; first | (go_big_quiet_op; first | go_big_quiet_on | go_big_quiet_call (fail))))
              refine wpQuiet_nil ?_
              intro z hz
              go_wp2
              go_meet
              case rel => exact ⟨by rw [HT.out], hz⟩
            · obtain ⟨k1, rfl⟩ : ∃ k1, k = k1 + 1 := ⟨k - 1, by omega⟩
              obtain ⟨z0, hz0'⟩ : ∃ r, s[k1]? = some r := ⟨_, List.getElem?_eq_getElem (by have := HSN.out; have := HKS.out; omega)⟩
              have HZ0 := Lib.hid hz0'
              have hzo := Lib.hid (HSW.out z0 (List.mem_of_getElem? hz0'))
              have HT : Hid (bb = z0.ahead x) := Lib.hid (by rw [← HBH.out]; unfold bh; rw [if_neg (by omega), Nat.add_sub_cancel, hz0'])
              have HA1 : Hid (∀ w, Calls Tryz.prog 36 #[.agg z0.vals.toArray, .agg x.vals.toArray] w fun e w' => e = .returned (.bool (z0.ahead x)) ∧ Below w.heap.size w w') := Lib.hid fun w => ahead_calls z0 x hzo.out.ok hxo.out.ok w
              obtain ⟨p', c', eq', hat', hfr'⟩ := row_ats (w := wr) (n := 0) (l := s.take (k1 + 1)) (B := w.heap.size) (fun r hr => (HSW.out r (List.mem_of_mem_take hr)).ok) (by rw [List.length_take, Nat.min_eq_left (by have := HSN.out; have := HKS.out; omega)]; exact HO2.out)
              injection eq' with e1' e2' e3'
              subst e1'
              clear hz0' hk0 e2' e3' hfr'
              rcases hat' with ⟨_, hat'⟩ | ⟨g2, o2, rfl, hgl2, hh2⟩
              · have := congrArg List.length hat'; rw [List.length_take] at this; have h2 := HSN.out; have h3 := HKS.out; rw [Nat.min_eq_left (by omega)] at this; exact absurd this (Nat.succ_ne_zero _)
              have HZ := Lib.hid (hh2 k1 z0 (by rw [List.getElem?_take_of_lt (by omega)]; exact HZ0.out))
              clear hh2 hgl2
              have f0 : (((k1 + 1 : Nat) : Int) == 0) = false := beq_eq_false_iff_ne.2 (by omega)
              have f0' : ((k1 : Int) + 1 == 0) = false := beq_eq_false_iff_ne.2 (by omega)
              refine region_later (by kernel_rfl) (by kernel_rfl) ?_
              repeat (first | go_big_quiet_skip | (go_big_quiet_want; first | (refine quiet_at 37 _ rfl g2 (o2 + k1 * 19) z0.vals _ rfl HZ.out Tryz.underlying37 rfl (by as_aux_lemma => exact rsz hzo.out.ok) ?_; simp only [Act.put, List.setIfInBounds_toArray, List.set_cons_zero, List.set_cons_succ]; go_big_quiet_on) | (refine quiet_at 37 _ rfl g (o + i * 19) x.vals _ rfl HX.out Tryz.underlying37 rfl (by as_aux_lemma => exact rsz hxo.out.ok) ?_; simp only [Act.put, List.setIfInBounds_toArray, List.set_cons_zero, List.set_cons_succ]; go_big_quiet_on) | (go_big_quiet_op; first | go_big_quiet_on | go_big_quiet_call ((go_at_call 36; exact calls_later (HA1.out _))))))
              refine wpQuiet_nil ?_
              intro z hz
              go_wp2
              go_meet
              case rel => exact ⟨by rw [HT.out], hz⟩
          case rest =>
          obtain ⟨rfl, hcb⟩ := hcut
          have HX := Lib.hid (HH.out.later hcb HGL.out i x HXI.out)
          have HHC := Lib.hid (HH.out.later hcb HGL.out)
          have HB2 := keep HB2 hcb
          clear hcb
          go_upto_region 8 with fail
          cases bb
          · have HNX : Hid (Bst l s k (i + 1) v) := Lib.hid (HBS.out.skip HXI.out HBH.out)
            refine region_later (by kernel_rfl) (by kernel_rfl) ?_
            repeat (first | go_big_quiet_skip | (go_big_quiet_want; first | (go_big_quiet_op; first | go_big_quiet_on | go_big_quiet_call (fail))))
            refine wpQuiet_nil ?_
            intro z hz
            have HB2 := Lib.hid (HB2.out.trans (hz.mono HB2.out.size))
            clear hz
            go_wp2
            exact ⟨⟨i + 1, v, by go_num, rfl, by omega, HNX, HB2⟩, by simp [intOf]; omega⟩
          · rcases HBS.out with ⟨rfl, hno⟩ | ⟨b, y, rfl, hbi, hy, hby, hmin⟩
            · have HNX : Hid (Bst l s k (i + 1) (i : Nat)) := Lib.hid (Bst.first hno HXI.out HBH.out)
              clear hno HBS
              refine region_later (by kernel_rfl) (by kernel_rfl) ?_
              repeat (first | go_big_quiet_skip | (go_big_quiet_want; first | (go_big_quiet_op; first | go_big_quiet_on | go_big_quiet_call (fail))))
              refine wpQuiet_nil ?_
              intro z hz
              have HB2 := Lib.hid (HB2.out.trans (hz.mono HB2.out.size))
              clear hz
              go_wp2
              exact ⟨⟨i + 1, _, by go_num, rfl, by omega, HNX, HB2⟩, by simp [intOf]; omega⟩
            · have HYI := Lib.hid hy
              have hyo := Lib.hid (HL.out y (List.mem_of_getElem? hy))
              have HY := Lib.hid (HHC.out b y hy)
              have HBY := Lib.hid hby
              have HMN := Lib.hid hmin
              have f0 : decide ((b : Int) < 0) = false := decide_eq_false (by omega)
              have HA2 : Hid (∀ w, Calls Tryz.prog 36 #[.agg x.vals.toArray, .agg y.vals.toArray] w fun e w' => e = .returned (.bool (x.ahead y)) ∧ Below w.heap.size w w') := Lib.hid fun w => ahead_calls x y hxo.out.ok hyo.out.ok w
              obtain ⟨ay, hay⟩ : ∃ b, x.ahead y = b := ⟨_, rfl⟩
              rw [hay] at HA2
              have HAY := Lib.hid hay
              clear hy hby hmin HBS hay
              cases ay
              · have HNX : Hid (Bst l s k (i + 1) (b : Nat)) := Lib.hid (Bst.keep hbi HYI.out HBY.out HMN.out HXI.out HAY.out)
                refine region_later (by kernel_rfl) (by kernel_rfl) ?_
                repeat (first | go_big_quiet_skip | (go_big_quiet_want; first | (refine quiet_at 37 _ rfl g (o + i * 19) x.vals _ rfl HX.out Tryz.underlying37 rfl (by as_aux_lemma => exact rsz hxo.out.ok) ?_; simp only [Act.put, List.setIfInBounds_toArray, List.set_cons_zero, List.set_cons_succ]; go_big_quiet_on) | (refine quiet_at 37 _ rfl g (o + b * 19) y.vals _ rfl HY.out Tryz.underlying37 rfl (by as_aux_lemma => exact rsz hyo.out.ok) ?_; simp only [Act.put, List.setIfInBounds_toArray, List.set_cons_zero, List.set_cons_succ]; go_big_quiet_on) | (go_big_quiet_op; first | go_big_quiet_on | go_big_quiet_call ((go_at_call 36; exact calls_later (HA2.out _))))))
                refine wpQuiet_nil ?_
                intro z hz
                have HB2 := Lib.hid (HB2.out.trans (hz.mono HB2.out.size))
                clear hz
                go_wp2
                exact ⟨⟨i + 1, _, by go_num, rfl, by omega, HNX, HB2⟩, by simp [intOf]; omega⟩
              · have HNX : Hid (Bst l s k (i + 1) (i : Nat)) := Lib.hid (Bst.turn (fun r hr => (HL.out r hr).ok) HYI.out HMN.out HXI.out HBH.out HAY.out)
                refine region_later (by kernel_rfl) (by kernel_rfl) ?_
                repeat (first | go_big_quiet_skip | (go_big_quiet_want; first | (refine quiet_at 37 _ rfl g (o + i * 19) x.vals _ rfl HX.out Tryz.underlying37 rfl (by as_aux_lemma => exact rsz hxo.out.ok) ?_; simp only [Act.put, List.setIfInBounds_toArray, List.set_cons_zero, List.set_cons_succ]; go_big_quiet_on) | (refine quiet_at 37 _ rfl g (o + b * 19) y.vals _ rfl HY.out Tryz.underlying37 rfl (by as_aux_lemma => exact rsz hyo.out.ok) ?_; simp only [Act.put, List.setIfInBounds_toArray, List.set_cons_zero, List.set_cons_succ]; go_big_quiet_on) | (go_big_quiet_op; first | go_big_quiet_on | go_big_quiet_call ((go_at_call 36; exact calls_later (HA2.out _))))))
                refine wpQuiet_nil ?_
                intro z hz
                have HB2 := Lib.hid (HB2.out.trans (hz.mono HB2.out.size))
                clear hz
                go_wp2
                exact ⟨⟨i + 1, _, by go_num, rfl, by omega, HNX, HB2⟩, by simp [intOf]; omega⟩
        · have e1 : decide ((i : Int) < (n : Int)) = false := decide_eq_false (by omega)
          have e1' : decide (i < n) = false := decide_eq_false hlt
          have hin2 : i = l.length := by have := HN.out; omega
          have hdone := Bst.done (fun r hr => (HL.out r hr).ok) HS.out (k := k) (by have := HSN.out; have := HKS.out; omega) (by rw [← hin2]; exact HBS.out)
          clear hin2
          obtain ⟨b, y, hvb, hbl, hy, hsk⟩ := hdone
          subst hvb
          have HYI := Lib.hid hy
          have HSK := Lib.hid hsk
          have hyo := Lib.hid (HL.out y (List.mem_of_getElem? hy))
          have hbn : b < n := by have := HN.out; omega
          have f0 : decide ((b : Int) < 0) = false := decide_eq_false (by omega)
          have hap := HP.out.later (HB.out.trans (HB2.out.mono HB.out.size))
          have HO2 := Lib.hid (own_later HO.out HB2.out)
          have HB3 := keep HB HB2.out
          clear hy hsk hlt HBS
          rcases hap with hap | ⟨g, o, rfl, hgl, hh⟩
          · rw [hap] at hbl; exact absurd hbl (Nat.not_lt_zero _)
          have HY := Lib.hid (hh b y HYI.out)
          clear hh hgl hbl
          have hk32 : k ≤ 32 := by omega
          go_wp2_with (first | (refine wpList_load_at rfl 37 _ rfl g (o + b * 19) y.vals _ rfl HY.out Tryz.underlying37 rfl (by as_aux_lemma => exact rsz hyo.out.ok) ?_) | (refine wpList_slice1 rfl _ rfl y hyo.out.ok rfl ?_) | (at_builtin; refine wpList_append_own _ rfl _ _ 22 rfl w.heap.size 37 i0 _ 19 40 Tryz.underlying22 hi hz0 hz1 hz2 (by rfl) (by omega) _ k (flat (s.take k)) rfl (World.ownsRow.alloc HO2.out _) ⟨wr.heap.size, 0, none⟩ 1 1 y.vals rfl (by rw [vals_len hyo.out.ok]) (news_rt wr y) (vals_one y) (by unfold maxLen; omega) (by omega) (by have := HB3.out.size; simp; omega) ?_; intro v' w1 hown1 hgrow1 hnil1))
          have htk : s.take (k + 1) = s.take k ++ [y] := by rw [List.take_add_one, HSK.out]; rfl
          have hown2 : w1.ownsRow w.heap.size 37 19 v' (k + 1) (flat (s.take (k + 1))) := by rw [htk, flat_snoc]; exact hown1
          obtain ⟨p', c', rfl, h1, h2⟩ := row_ats (w := w1) (n := 0) (l := s.take (k + 1)) (B := w.heap.size) (v := v') (fun r hr => (HSW.out r (List.mem_of_mem_take hr)).ok) (by rw [List.length_take, Nat.min_eq_left (by have := HSN.out; omega)]; exact hown2)
          have hlk : (s.take (k + 1)).length = k + 1 := by rw [List.length_take, Nat.min_eq_left (by have := HSN.out; omega)]
          rw [hlk] at hown2 ⊢
          obtain ⟨q', c2, hq', h3, h4⟩ := row_ats (w := wr) (n := 0) (l := s.take k) (B := w.heap.size) (fun r hr => (HSW.out r (List.mem_of_mem_take hr)).ok) (by rw [List.length_take, Nat.min_eq_left (by have := HSN.out; omega)]; exact HO2.out)
          injection hq' with hq' _ _
          subst hq'
          have HBW : Hid (Below w.heap.size w w1) := Lib.hid ((HB3.out.alloc HB3.out.size _).grown hgrow1 (by have := HB3.out.size; simp; omega) (fun j hj => by
            cases q with
            | none => cases hj
            | some a => injection hj with hj; subst hj; exact h4 a rfl))
          exact ⟨⟨k + 1, p', c', rfl, by omega, Lib.hid hown2, HBW⟩, by show n - (k + 1) < n - k; omega⟩
    · have e0 : decide ((k : Int) < (n : Int)) = false := decide_eq_false (by omega)
      have e0' : decide (k < n) = false := decide_eq_false hkn
      obtain rfl : k = n := by omega
      clear hkn
      go_wp2
      go_ret
      have ht : s.take k = s := by rw [← HSN.out]; exact List.take_length
      have ho := HO.out
      rw [ht] at ho
      obtain ⟨p', c', e, h1, h2⟩ := row_ats (w := wr) (n := 0) (l := s) (B := w.heap.size) (fun r hr => (HSW.out r hr).ok) (by rw [HSN.out]; exact ho)
      injection e with e1 e2 e3
      subst e1; subst e3
      exact ⟨q, d, rfl, h1, h2, HB.out⟩
end Go.Proofs.YtpaplobjmmpliaaGreatDoor.Ad
