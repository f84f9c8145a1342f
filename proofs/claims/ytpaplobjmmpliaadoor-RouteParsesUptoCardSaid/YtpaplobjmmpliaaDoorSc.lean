/- Contract of the reference's Parse. Conditions: a text is shorter than 2^32 - 15. -/
import Derived.Test.YtpaplobjmmpliaaDoorSb
import Derived.Test.YtpaplobjmmpliaaDoorRo
import Derived.Test.YtpaplobjmmpliaaDoorRi
namespace Go.Proofs.YtpaplobjmmpliaaDoor.Ad
set_option linter.unusedVariables false
set_option linter.unusedSimpArgs false
open Go.RowKit Go.Maps W
set_option maxRecDepth 100000 in
set_option maxHeartbeats 4000000 in
theorem rparser_calls (l : List UInt8) (hl : l.length < 4294967281) (w : World) : Calls Tryd.prog 19 #[.string (S l)] w fun e w' =>
    ∃ p c, e = .returned (.tuple #[.slice p (parseV l).1.length c, .int .i64 (parseV l).2]) ∧ AtS w' p (parseV l).1 ∧ (∀ a, p = some a → w.heap.size ≤ a.block) ∧ Below w.heap.size w w' := by
  have hz := zeroRt_ok
  obtain ⟨i0, hi, hz0, hz1, hz2⟩ := info_parts (show (Tryd.prog.info? 44).map (fun i => (i.zero, i.size, i.bytes)) = some (some (.agg zeroRt.cells), 19, 40) by kernel_rfl)
  obtain ⟨pm, pe, hpv⟩ : ∃ m e, parseV l = (m, e) := ⟨_, _, rfl⟩
  have HPV := Lib.hid hpv
  rw [hpv]
  clear hpv
  go_enter Tryd.func19, Tryd.ntmps19
  go_wp2
  go_loopw [0, 4, 5, 6, 7] (fun u0 u4 _ _ _ wr => ∃ (t : List UInt8) (acc : List Rt), u0 = .string (S t) ∧ acc.length + t.length ≤ l.length ∧ Hid (wr.ownsRow w.heap.size 44 19 u4 acc.length (flat acc)) ∧ Hid (∀ r ∈ acc, r.wf) ∧ Hid (linesV l = (linesV t).map (acc ++ ·)) ∧ Hid (Below w.heap.size w wr)) (fun u0 _ _ _ _ _ => strLen u0)
  case atStart => exact ⟨l, [], rfl, by simp, Lib.hid (World.ownsRow_nil _ _ _ _), Lib.hid (fun r hr => by cases hr), Lib.hid (by simp), Lib.hid (Below.refl _ _)⟩
  case round =>
    obtain ⟨t, acc, rfl, hlen, HO, HA, HLN, HB⟩ := hrel
    obtain ⟨p, c, rfl, hat, hfr⟩ := row_ats (w := wr) (n := 0) (fun r hr => (HA.out r hr).ok) HO.out
    have HAT := Lib.hid hat
    have HFR := Lib.hid hfr
    clear hat hfr
    obtain ⟨n, hn⟩ : ∃ n, acc.length = n := ⟨_, rfl⟩
    have HN := Lib.hid hn
    rw [hn] at HO hlen ⊢
    clear hn
    obtain ⟨s, hs⟩ : ∃ s, S t = s := ⟨_, rfl⟩
    have HST := Lib.hid hs
    have hsz : s.size = t.length := by rw [← hs]; exact S_size t
    rw [hs]
    clear hs
    by_cases h0 : t = []
    · subst h0
      have hs0 : s.size = 0 := hsz
      have f0 : decide ((0 : Int) < (s.size : Int)) = false := decide_eq_false (by omega)
      have f0' : decide (0 < s.size) = false := decide_eq_false (by omega)
      have HP : Hid (linesV l = some acc) := Lib.hid (by rw [HLN.out, linesV_nil]; simp)
      have HM := Lib.hid (fun w' (hb : Below wr.heap.size wr w') => rmay_calls HA.out p c w' (HAT.out.later hb).at)
      rw [HN.out] at HM
      cases hm : mayV acc
      · have HV : Hid ((pm, pe) = (([] : List Rt), (1 : Int))) := Lib.hid (by rw [← HPV.out]; unfold parseV; rw [HP.out]; simp [hm])
        rw [hm] at HM
        clear hm
        go_wp2_with (go_at_call 12; refine (HM.out _ (Below.refl _ _)).mono ?_; rintro e W2 ⟨rfl, hB2⟩)
        go_ret2
        obtain ⟨rfl, rfl⟩ := Prod.mk.inj HV.out
        exact ⟨none, 0, rfl, .inl ⟨rfl, rfl⟩, (fun a ha => by cases ha), (keep HB hB2).out⟩
      · have HV : Hid ((pm, pe) = (acc, (0 : Int))) := Lib.hid (by rw [← HPV.out]; unfold parseV; rw [HP.out]; simp [hm])
        rw [hm] at HM
        clear hm
        go_wp2_with (go_at_call 12; refine (HM.out _ (Below.refl _ _)).mono ?_; rintro e W2 ⟨rfl, hB2⟩)
        go_ret2
        obtain ⟨rfl, rfl⟩ := Prod.mk.inj HV.out
        exact ⟨p, c, by rw [HN.out]; rfl, HAT.out.later hB2, HFR.out, (keep HB hB2).out⟩
    · have hpos : 0 < t.length := List.length_pos_iff.2 h0
      have f0 : decide ((0 : Int) < (s.size : Int)) = true := decide_eq_true (by omega)
      have f0' : decide (0 < s.size) = true := decide_eq_true (by omega)
      have HT0 := Lib.hid h0
      clear h0
      have HPL : Hid (∀ w, Calls Tryd.prog 35 #[.string s, .int .u8 10] w fun e w' => e = .returned (.int .i64 (placeV t 10)) ∧ w = w') := Lib.hid fun w => by
        have := place_calls t (by omega) 10 10 rfl w
        rwa [HST.out] at this
      by_cases hm : (10 : UInt8) ∈ t
      · obtain ⟨A, Q, hAQ, hA⟩ := split_at hm
        have hpl : placeV t 10 = (A.length : Nat) := by rw [hAQ]; exact place_at hA
        have HCUT : Hid (Lib.cut t [10] = (A, Q, true)) := Lib.hid (by rw [hAQ]; exact cut1_at hA)
        have hlt : t.length = A.length + 1 + Q.length := by rw [hAQ]; simp; omega
        have HE1 : Hid (s.extract 0 A.length = S A) := Lib.hid (by
          rw [← S_of (s.extract 0 A.length), ext_take, ← HST.out, S_list, hAQ]; congr 1; exact List.take_left)
        have HE2 : Hid (s.extract (A.length + 1) s.size = S Q) := Lib.hid (by
          rw [← S_of (s.extract (A.length + 1) s.size), ext_drop, ← HST.out, S_list, hAQ]
          congr 1
          have : A ++ 10 :: Q = (A ++ [10]) ++ Q := by simp
          rw [this]; exact List.drop_left' (by simp))
        obtain ⟨ia, hia⟩ : ∃ i, A.length = i := ⟨_, rfl⟩
        have HIA := Lib.hid hia
        rw [hpl, hia] at HPL
        rw [hia] at HE1 HE2 hlt
        have HE3 : Hid (s.extract (ia + 1) (ia + 1 + Q.length) = S Q) := Lib.hid (by rw [← hlt, ← hsz]; exact HE2.out)
        have HLQ : Hid ((S Q).size < s.size) := Lib.hid (by rw [S_size]; omega)
        have f1 : decide ((ia : Int) < 0) = false := decide_eq_false (by omega)
        have HLI : Hid (∀ w, Calls Tryd.prog 36 #[.string (s.extract 0 ia)] w fun e w' => e = .returned (.tuple #[.agg (lineR A).1.cells, .bool (lineR A).2]) ∧ Below w.heap.size w w') := Lib.hid fun w => by
          have := rline_calls A (by omega) w
          rwa [← HE1.out] at this
        obtain ⟨r, ok, hline⟩ : ∃ r ok, lineR A = (r, ok) := ⟨_, _, rfl⟩
        have hsame := line_same A
        rw [hline] at HLI hsame
        simp only at hsame
        have hro : r.ok := by
          have h2 := congrArg Prod.fst hline
          simp only at h2
          rw [← h2]; unfold lineR; split
          · exact zeroRt_ok
          · exact readV_ok _
        have HSM := Lib.hid hsame
        clear hline hsame hpl hm hAQ hA hia
        go_upto_region 7 with (first | (go_at_call 35; refine (HPL.out _).mono ?_; rintro e W2 ⟨rfl, rfl⟩) | (go_at_call 36; refine (HLI.out _).mono ?_; rintro e W3 ⟨rfl, hB3⟩) | (refine wpList_store_blk rfl 44 _ _ rfl W3.heap.size 44 zeroRt.cells r.cells rfl rfl (Blk.new _ _ _) (by rw [rcs hro, rcs zeroRt_ok]) (rszc hro) (rone _) ?_; intro W4 P4))
        obtain ⟨B5, b5, s5, t5⟩ := call_store hB3 P4
        have HO := Lib.hid (own_later HO.out B5.out)
        have HB := keep HB B5.out
        obtain ⟨G1, hG1⟩ : ∃ g, W3.heap.size = g := ⟨_, rfl⟩
        rw [hG1] at b5 ⊢
        clear hB3 P4 B5 s5 t5 hG1 HLI HPL
        cases ok
        · skip
          have HV : Hid ((pm, pe) = (([] : List Rt), (2 : Int))) := Lib.hid (by
            have h : linesV t = none := linesV_no HT0.out (by rw [HCUT.out]; simp only; rw [← HSM.out.1]; simp)
            rw [← HPV.out]; unfold parseV; rw [HLN.out, h]; rfl)
          go_wp2
          go_ret2
          obtain ⟨rfl, rfl⟩ := Prod.mk.inj HV.out
          exact ⟨none, 0, rfl, .inl ⟨rfl, rfl⟩, (fun a ha => by cases ha), HB.out⟩
        · have HLV : Hid ((lineV A).2 = true ∧ (lineV A).1 = r) := Lib.hid ⟨HSM.out.1.symm, (HSM.out.2 HSM.out.1.symm).symm⟩
          have hwf : Hid r.wf := Lib.hid (by rw [← HLV.out.2]; exact lineV_wf A)
          have HN2 : Hid (linesV l = (linesV Q).map ((acc ++ [r]) ++ ·)) := Lib.hid (by
            have h : linesV t = (linesV Q).map (r :: ·) := by
              rw [linesV_step HT0.out (by rw [HCUT.out]; exact ⟨rfl, HLV.out.1⟩), HCUT.out]
              simp only
              rw [HLV.out.2]
            rw [HLN.out, h, Option.map_map]
            congr 1
            funext y
            simp)
          have hn43 : n ≤ 4294967281 := by omega
          have hia2 : ia + 1 ≤ s.size := by omega
          go_wp2_with (first | (refine wpList_load_at rfl 44 _ rfl G1 0 r.vals _ rfl (all_at b5.out) Tryd.underlying44 rfl (by as_aux_lemma => exact rsz hro) ?_) | (refine wpList_slice1 rfl _ rfl r hro rfl ?_) | (at_builtin; refine wpList_append_own _ rfl _ _ 22 rfl w.heap.size 44 i0 _ 19 40 Tryd.underlying22 hi hz0 hz1 hz2 (by rfl) (by omega) _ n (flat acc) rfl (World.ownsRow.alloc HO.out _) ⟨W4.heap.size, 0, none⟩ 1 1 r.vals rfl (by rw [vals_len hro]) (news_rt W4 r) (vals_one r) (by unfold maxLen; omega) (by omega) (by have := HB.out.size; simp; omega) ?_; intro v' w1 hown1 hgrow1 hnil1))
          have HOW : Hid (w1.ownsRow w.heap.size 44 19 v' (acc ++ [r]).length (flat (acc ++ [r]))) := Lib.hid (by rw [List.length_append, HN.out, flat_snoc]; exact hown1)
          have HWF : Hid (∀ q ∈ acc ++ [r], q.wf) := Lib.hid (fun q hq => by
            rcases List.mem_append.1 hq with hq | hq
            · exact HA.out q hq
            · obtain rfl := List.mem_singleton.1 hq; exact hwf.out)
          have HBW : Hid (Below w.heap.size w w1) := Lib.hid ((HB.out.alloc HB.out.size _).grown hgrow1 (by have := HB.out.size; simp; omega) (fun j hj => by
            cases p with
            | none => cases hj
            | some a => injection hj with hj; subst hj; exact HFR.out a rfl))
          exact ⟨⟨Q, acc ++ [r], by rw [HE3.out], by rw [List.length_append, HN.out]; simp only [List.length_singleton]; omega, HOW, HWF, HN2, HBW⟩, by rw [HE3.out]; exact HLQ.out⟩
      · have hpl : placeV t 10 = -1 := place_none hm
        have HCUT : Hid (Lib.cut t [10] = (t, [], false)) := Lib.hid (cut1_none hm)
        rw [hpl] at HPL
        clear hpl hm
        have HV : Hid ((pm, pe) = (([] : List Rt), (2 : Int))) := Lib.hid (by
          have h : linesV t = none := linesV_no HT0.out (by rw [HCUT.out]; simp)
          rw [← HPV.out]; unfold parseV; rw [HLN.out, h]; rfl)
        go_wp2_with (go_at_call 35; refine (HPL.out _).mono ?_; rintro e W2 ⟨rfl, rfl⟩)
        go_ret2
        obtain ⟨rfl, rfl⟩ := Prod.mk.inj HV.out
        exact ⟨none, 0, rfl, .inl ⟨rfl, rfl⟩, (fun a ha => by cases ha), HB.out⟩
end Go.Proofs.YtpaplobjmmpliaaDoor.Ad
