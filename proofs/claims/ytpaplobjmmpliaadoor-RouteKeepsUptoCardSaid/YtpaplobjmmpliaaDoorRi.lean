/- Contracts of the reference's May and Find. Conditions: addresses have sixteen bytes, numbers lie within 64 bits. -/
import Derived.Test.YtpaplobjmmpliaaDoorRh
namespace Go.Proofs.YtpaplobjmmpliaaDoor.Ad
set_option linter.unusedVariables false
set_option linter.unusedSimpArgs false
open Go.RowKit Go.Maps W
set_option maxRecDepth 100000 in
set_option maxHeartbeats 4000000 in
theorem rmay_calls {l : List Rt} (hl : ∀ r ∈ l, r.wf) (p : Option Go.Addr) (c : Nat) (w : World) (hp : At w p l) : Calls Tryd.prog 12 #[.slice p l.length c] w fun e w' => e = .returned (.bool (mayV l)) ∧ Below w.heap.size w w' := by
  have HP := Lib.hid hp
  have HL := Lib.hid hl
  obtain ⟨n, hn⟩ : ∃ n, l.length = n := ⟨_, rfl⟩
  obtain ⟨mv, hmv⟩ : ∃ mv, mayV l = mv := ⟨_, rfl⟩
  have HN := Lib.hid hn
  have HMV := Lib.hid hmv
  rw [hn, hmv]
  clear hp hl
  go_enter Tryd.func12, Tryd.ntmps12
  by_cases h32 : 32 < n
  · have e0 : decide ((32 : Int) < (n : Int)) = true := decide_eq_true (by omega)
    have e0' : decide (32 < n) = true := decide_eq_true h32
    have HF : Hid (mv = false) := Lib.hid (by rw [← hmv]; exact may_long (by omega))
    clear h32 hn hmv
    go_wp2
    go_ret
    exact ⟨by rw [HF.out]; rfl, Below.refl _ _⟩
  · have e0 : decide ((32 : Int) < (n : Int)) = false := decide_eq_false (by omega)
    have e0' : decide (32 < n) = false := decide_eq_false h32
    have H32 := Lib.hid h32
    have hb32 : n ≤ 32 := by omega
    clear h32 hn hmv
    go_wp2
    go_loopw [3, 4] (fun u _ wr => ∃ i : Nat, u = .int .i64 i ∧ i ≤ n ∧ Hid (goodTo l i) ∧ Hid (Below w.heap.size w wr)) (fun u _ _ => n - (intOf u).toNat)
    case atStart => exact ⟨0, rfl, Nat.zero_le _, Lib.hid (goodTo_zero l), Lib.hid (Below.refl _ _)⟩
    case round =>
      obtain ⟨i, rfl, hi, HGD, HB⟩ := hrel
      by_cases hlt : i < n
      · have e1 : decide ((i : Int) < (n : Int)) = true := decide_eq_true (by omega)
        have e1' : decide (i < n) = true := decide_eq_true hlt
        have HK : Hid (i < l.length) := Lib.hid (by have := HN.out; omega)
        obtain ⟨r, hr⟩ : ∃ r, l[i]? = some r := ⟨_, List.getElem?_eq_getElem HK.out⟩
        have HR := Lib.hid hr
        have hwf := Lib.hid (HL.out r (List.mem_of_getElem? hr))
        have hap := HP.out.later HB.out
        clear hr
        rcases hap with hap | ⟨g, o, rfl, hgl, hh⟩
        · have := HK.out; rw [hap] at this; exact absurd this (Nat.not_lt_zero _)
        have HH := Lib.hid hh
        have HGL := Lib.hid hgl
        have HRV := Lib.hid (hh i r HR.out)
        clear hh hgl
        have HO := Lib.hid (fun w => rone_calls r hwf.out.ok w)
        obtain ⟨b, hb⟩ : ∃ b, r.one = b := ⟨_, rfl⟩
        rw [hb] at HO
        have HONE := Lib.hid hb
        clear hb
        cases b
        · have HF : Hid (mv = false) := Lib.hid (by
            rw [← HMV.out]
            exact may_no HK.out fun h => by have h2 := ((goodTo_step HR.out).1 h).2.1; rw [HONE.out] at h2; cases h2)
          go_wp2_with (first | (refine wpList_load_at rfl 44 _ rfl g (o + i * 19) r.vals _ rfl HRV.out Tryd.underlying44 rfl (by as_aux_lemma => exact rsz hwf.out.ok) ?_) | (go_at_call 26; refine (HO.out _).mono ?_; rintro e W3 ⟨rfl, hB3⟩))
          go_ret
          exact ⟨by rw [HF.out]; rfl, (keep HB hB3).out⟩
        · go_upto_region 8 with (first | (refine wpList_load_at rfl 44 _ rfl g (o + i * 19) r.vals _ rfl HRV.out Tryd.underlying44 rfl (by as_aux_lemma => exact rsz hwf.out.ok) ?_) | (go_at_call 26; refine (HO.out _).mono ?_; rintro e W3 ⟨rfl, hB3⟩))
          have HH := Lib.hid (HH.out.later hB3 HGL.out)
          have HB := keep HB hB3
          have HGL := Lib.hid (Nat.lt_of_lt_of_le HGL.out hB3.size)
          clear hB3 HRV HO
          go_wp2
          go_loopw [4] (fun u w2 => ∃ k : Nat, u = .int .i64 k ∧ k ≤ i ∧ Hid (∀ j, j < k → ∃ q, l[j]? = some q ∧ q.same r = false) ∧ Hid (Below W3.heap.size W3 w2)) (fun u _ => i - (intOf u).toNat)
          case atStart => exact ⟨0, rfl, Nat.zero_le _, Lib.hid (fun j hj => absurd hj (Nat.not_lt_zero j)), Lib.hid (Below.refl _ _)⟩
          case round =>
            obtain ⟨k, rfl, hk, HNO, HB2⟩ := hrel
            have HH2 := Lib.hid (HH.out.later HB2.out HGL.out)
            by_cases hki : k < i
            · have e2 : decide ((k : Int) < (i : Int)) = true := decide_eq_true (by omega)
              have e2' : decide (k < i) = true := decide_eq_true hki
              have HKI := Lib.hid hki
              obtain ⟨q, hq⟩ : ∃ q, l[k]? = some q := ⟨_, List.getElem?_eq_getElem (by have := HK.out; omega)⟩
              have hqo := Lib.hid (HL.out q (List.mem_of_getElem? hq))
              have HQ := Lib.hid (HH2.out.net hq)
              have HR2 := Lib.hid (HH2.out.net HR.out)
              have c1 : ∀ z : Later wr, z.val.cell? ⟨g, o + k * 19 + 17, none⟩ = some (.int .i64 q.bits) := Later.cell (HH2.out.bits hq hqo.out.ok)
              have c2 : ∀ z : Later wr, z.val.cell? ⟨g, o + i * 19 + 17, none⟩ = some (.int .i64 r.bits) := Later.cell (HH2.out.bits HR.out hwf.out.ok)
              have HQQ := Lib.hid hq
              have q1 : ∀ w, (binOp .eql 35 (.agg q.net.vals.toArray) (.agg r.net.vals.toArray)).run Tryd.prog w = .ok (.bool (decide (q.net = r.net))) w := fun w => eql_ad q.net r.net hqo.out.ok hwf.out.ok w
              clear hq
              go_upto_region 11 with fail
              by_cases hnn : q.net = r.net
              · rw [decide_eq_true hnn] at q1
                by_cases hbb : q.bits = r.bits
                · have f1 : (q.bits == r.bits) = true := beq_iff_eq.2 hbb
                  have HF : Hid (mv = false) := Lib.hid (by
                    rw [← HMV.out]
                    refine may_no HK.out fun h => ?_
                    obtain ⟨q', h1, h2⟩ := ((goodTo_step HR.out).1 h).2.2 k HKI.out
                    rw [HQQ.out] at h1; injection h1 with h1; subst h1
                    exact absurd ⟨hnn, hbb⟩ (of_decide_eq_false h2))
                  clear hnn hbb HNO
                  refine region_later (by kernel_rfl) (by kernel_rfl) ?_
                  repeat (first | go_big_quiet_skip | (go_big_quiet_want; first | (refine quiet_at 35 _ rfl g (o + k * 19) q.net.vals _ rfl HQ.out Tryd.underlying35 rfl (by as_aux_lemma => exact asz hqo.out.ok) ?_; simp only [Act.put, List.setIfInBounds_toArray, List.set_cons_zero, List.set_cons_succ]; go_big_quiet_on) | (refine quiet_at 35 _ rfl g (o + i * 19) r.net.vals _ rfl HR2.out Tryd.underlying35 rfl (by as_aux_lemma => exact asz hwf.out.ok) ?_; simp only [Act.put, List.setIfInBounds_toArray, List.set_cons_zero, List.set_cons_succ]; go_big_quiet_on) | (go_big_quiet_op; first | go_big_quiet_on | go_big_quiet_call (fail))))
                  refine wpQuiet_nil ?_
                  intro z hz
                  have HB2 := Lib.hid (HB2.out.trans (hz.mono HB2.out.size))
                  clear hz
                  go_wp2
                  go_ret
                  exact ⟨by rw [HF.out]; rfl, (keep HB HB2.out).out⟩
                · have f1 : (q.bits == r.bits) = false := beq_eq_false_iff_ne.2 hbb
                  have HN2 : Hid (∀ j, j < k + 1 → ∃ q, l[j]? = some q ∧ q.same r = false) := Lib.hid fun j hj => by
                    by_cases e : j = k
                    · subst e; exact ⟨q, HQQ.out, decide_eq_false fun h => hbb h.2⟩
                    · exact HNO.out j (by omega)
                  clear hnn hbb HNO
                  refine region_later (by kernel_rfl) (by kernel_rfl) ?_
                  repeat (first | go_big_quiet_skip | (go_big_quiet_want; first | (refine quiet_at 35 _ rfl g (o + k * 19) q.net.vals _ rfl HQ.out Tryd.underlying35 rfl (by as_aux_lemma => exact asz hqo.out.ok) ?_; simp only [Act.put, List.setIfInBounds_toArray, List.set_cons_zero, List.set_cons_succ]; go_big_quiet_on) | (refine quiet_at 35 _ rfl g (o + i * 19) r.net.vals _ rfl HR2.out Tryd.underlying35 rfl (by as_aux_lemma => exact asz hwf.out.ok) ?_; simp only [Act.put, List.setIfInBounds_toArray, List.set_cons_zero, List.set_cons_succ]; go_big_quiet_on) | (go_big_quiet_op; first | go_big_quiet_on | go_big_quiet_call (fail))))
                  refine wpQuiet_nil ?_
                  intro z hz
                  have HB2 := Lib.hid (HB2.out.trans (hz.mono HB2.out.size))
                  clear hz
                  go_wp2
                  exact ⟨⟨k + 1, by go_num, by omega, HN2, HB2⟩, by simp [intOf]; omega⟩
              · rw [decide_eq_false hnn] at q1
                have HN2 : Hid (∀ j, j < k + 1 → ∃ q, l[j]? = some q ∧ q.same r = false) := Lib.hid fun j hj => by
                  by_cases e : j = k
                  · subst e; exact ⟨q, HQQ.out, decide_eq_false fun h => hnn h.1⟩
                  · exact HNO.out j (by omega)
                clear hnn HNO
                refine region_later (by kernel_rfl) (by kernel_rfl) ?_
                repeat (first | go_big_quiet_skip | (go_big_quiet_want; first | (refine quiet_at 35 _ rfl g (o + k * 19) q.net.vals _ rfl HQ.out Tryd.underlying35 rfl (by as_aux_lemma => exact asz hqo.out.ok) ?_; simp only [Act.put, List.setIfInBounds_toArray, List.set_cons_zero, List.set_cons_succ]; go_big_quiet_on) | (refine quiet_at 35 _ rfl g (o + i * 19) r.net.vals _ rfl HR2.out Tryd.underlying35 rfl (by as_aux_lemma => exact asz hwf.out.ok) ?_; simp only [Act.put, List.setIfInBounds_toArray, List.set_cons_zero, List.set_cons_succ]; go_big_quiet_on) | (go_big_quiet_op; first | go_big_quiet_on | go_big_quiet_call (fail))))
                refine wpQuiet_nil ?_
                intro z hz
                have HB2 := Lib.hid (HB2.out.trans (hz.mono HB2.out.size))
                clear hz
                go_wp2
                exact ⟨⟨k + 1, by go_num, by omega, HN2, HB2⟩, by simp [intOf]; omega⟩
            · have e2 : decide ((k : Int) < (i : Int)) = false := decide_eq_false (by omega)
              have e2' : decide (k < i) = false := decide_eq_false hki
              have HG2 : Hid (goodTo l (i + 1)) := Lib.hid ((goodTo_step HR.out).2 ⟨HGD.out, HONE.out, fun j hj => HNO.out j (by omega)⟩)
              clear hki
              go_wp2
              exact ⟨⟨i + 1, by go_num, by omega, HG2, keep HB HB2.out⟩, by simp [intOf]; omega⟩
      · have e1 : decide ((i : Int) < (n : Int)) = false := decide_eq_false (by omega)
        have e1' : decide (i < n) = false := decide_eq_false hlt
        have HT : Hid (mv = true) := Lib.hid (by
          rw [← HMV.out, mayV_iff, HN.out]
          have hkn : i = n := by omega
          exact ⟨by have := H32.out; omega, by rw [← hkn]; exact HGD.out⟩)
        clear hlt
        go_wp2
        go_ret
        exact ⟨by rw [HT.out]; rfl, HB.out⟩
end Go.Proofs.YtpaplobjmmpliaaDoor.Ad
