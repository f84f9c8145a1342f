/- The walk of RouteNets at a list that may not be. Conditions: addresses have sixteen bytes, numbers lie within 64 bits, at most 1048576 routes; the library tables hold what its text lays. -/
import Derived.Test.YtpaplobjmmpliaaDoorRt
import Derived.Test.YtpaplobjmmpliaaDoorTa
import Derived.Test.YtpaplobjmmpliaaDoorTb
namespace Go.Proofs.YtpaplobjmmpliaaDoor.Ad
set_option linter.unusedVariables false
set_option linter.unusedSimpArgs false
open Go.RowKit Go.Maps W
set_option maxRecDepth 100000 in
set_option maxHeartbeats 4000000 in
theorem nets_no {l : List Rt} (hl : ∀ r ∈ l, r.wf) (hm : mayV l = false) (hb : l.length ≤ 1048576) (p : Option Go.Addr) (c : Nat) (v : Value) (w : World) (hp : At w p l) (hn : p = none → c = 0) (hg : Gl w) :
    Calls Tryd.prog 5 #[.slice p l.length c, v] w fun e w' => e = .returned (.bool true) ∧ Below w.heap.size w w' := by
  have HP := Lib.hid hp
  have HL := Lib.hid hl
  have HG := Lib.hid hg
  have HOW := Lib.hid (own_calls (fun r hr => (hl r hr).ok) hb p c w hp hn)
  have HNW := Lib.hid (fun p c w' (h : At w' p l) => new_no hl hm p c w' h)
  have HNR := Lib.hid (fun p c w' (h : At w' p l.reverse) => new_no (l := l.reverse) (fun r hr => hl r (List.mem_reverse.1 hr)) (by rw [may_perm (List.reverse_perm l)]; exact hm) p c w' h)
  simp only [List.length_reverse] at HNR
  obtain ⟨i0, hi, hz0, hz1, hz2⟩ := info_parts (show (Tryd.prog.info? 44).map (fun i => (i.zero, i.size, i.bytes)) = some (some (.agg zeroRt.cells), 19, 40) by kernel_rfl)
  obtain ⟨n, hnn⟩ : ∃ n, l.length = n := ⟨_, rfl⟩
  have HN := Lib.hid hnn
  rw [hnn] at HOW HNW HNR hb ⊢
  clear hp hg hm hl hn hnn
  go_enter Tryd.func5, Tryd.ntmps5
  go_upto_region 2 with (first | (go_at_call 10; refine HOW.out.mono ?_; rintro e W2 ⟨p1, c1, rfl, hA1, _, hB2⟩) | (go_at_call 9; refine (HNW.out _ _ _ hA1.at).mono ?_; rintro e W3 ⟨rfl, hB3⟩))
  have HB := Lib.hid (hB2.trans (hB3.mono hB2.size))
  clear hB2 hB3 hA1 HOW HNW
  go_wp2
  go_loopw [7, 8] (fun u7 u8 wr => ∃ (i : Int) (j : Nat) (q : Option Go.Addr) (d : Nat), u8 = .int .i64 i ∧ u7 = .slice q j d ∧ i + 1 + j = n ∧ -1 ≤ i ∧ Hid (wr.ownsRow W3.heap.size 44 19 (.slice q j d) j (flat (l.reverse.take j))) ∧ Hid (Below W3.heap.size W3 wr)) (fun _ u8 _ => (intOf u8 + 1).toNat)
  case atStart => exact ⟨(n : Int) - 1, 0, none, 0, by go_num, rfl, by omega, by omega, Lib.hid (World.ownsRow_nil _ _ _ _), Lib.hid (Below.refl _ _)⟩
  case round =>
    obtain ⟨i, j, q, d, rfl, rfl, hij, hi1, HO, HB2⟩ := hrel
    by_cases hi0 : 0 ≤ i
    · obtain ⟨k, rfl⟩ := Int.eq_ofNat_of_zero_le hi0
      have e1 : decide ((0 : Int) ≤ (k : Int)) = true := decide_eq_true hi0
      have HK : Hid (k < l.length) := Lib.hid (by have := HN.out; omega)
      obtain ⟨r, hr⟩ : ∃ r, l[k]? = some r := ⟨_, List.getElem?_eq_getElem HK.out⟩
      have HR := Lib.hid hr
      have hwf := Lib.hid (HL.out r (List.mem_of_getElem? hr))
      have hap := HP.out.later (HB.out.trans (HB2.out.mono HB.out.size))
      clear hr
      rcases hap with hap | ⟨g, o, rfl, hgl, hh⟩
      · have := HK.out; rw [hap] at this; exact absurd this (Nat.not_lt_zero _)
      have HX := Lib.hid (hh k r HR.out)
      have HB3 := keep HB HB2.out
      clear hh hgl
      have hkn : k < n := by omega
      have hjn : j ≤ 1048576 := by omega
      go_wp2_with (first | (refine wpList_load_at rfl 44 _ rfl g (o + k * 19) r.vals _ rfl HX.out Tryd.underlying44 rfl (by as_aux_lemma => exact rsz hwf.out.ok) ?_) | (refine wpList_slice1 rfl _ rfl r hwf.out.ok rfl ?_) | (at_builtin; refine wpList_append_own _ rfl _ _ 22 rfl W3.heap.size 44 i0 _ 19 40 Tryd.underlying22 hi hz0 hz1 hz2 (by rfl) (by omega) _ j (flat (l.reverse.take j)) rfl (World.ownsRow.alloc HO.out _) ⟨wr.heap.size, 0, none⟩ 1 1 r.vals rfl (by rw [vals_len hwf.out.ok]) (news_rt wr r) (vals_one r) (by unfold maxLen; omega) (by omega) (by have := HB2.out.size; simp; omega) ?_; intro v' w1 hown1 hgrow1 hnil1))
      have htk : l.reverse.take (j + 1) = l.reverse.take j ++ [r] := by
        rw [List.take_add_one]
        have : l.reverse[j]? = some r := by
          rw [List.getElem?_reverse (by have := HN.out; omega), show l.length - 1 - j = k by have := HN.out; omega]; exact HR.out
        rw [this]; rfl
      have hwr : ∀ x ∈ l.reverse, x.ok := fun x hx => (HL.out x (List.mem_reverse.1 hx)).ok
      have hown2 : w1.ownsRow W3.heap.size 44 19 v' (j + 1) (flat (l.reverse.take (j + 1))) := by rw [htk, flat_snoc]; exact hown1
      have hlk : (l.reverse.take (j + 1)).length = j + 1 := by rw [List.length_take, List.length_reverse, Nat.min_eq_left (by have := HN.out; omega)]
      have hlk0 : (l.reverse.take j).length = j := by rw [List.length_take, List.length_reverse, Nat.min_eq_left (by have := HN.out; omega)]
      obtain ⟨p', c', rfl, h1, h2⟩ := row_ats (w := w1) (n := 0) (l := l.reverse.take (j + 1)) (B := W3.heap.size) (v := v') (fun x hx => hwr x (List.mem_of_mem_take hx)) (by rw [hlk]; exact hown2)
      rw [hlk] at hown2 ⊢
      obtain ⟨q', c2, hq', h3, h4⟩ := row_ats (w := wr) (n := 0) (l := l.reverse.take j) (B := W3.heap.size) (fun x hx => hwr x (List.mem_of_mem_take hx)) (by rw [hlk0]; exact HO.out)
      injection hq' with hq' _ _
      subst hq'
      have HBW : Hid (Below W3.heap.size W3 w1) := Lib.hid ((HB2.out.alloc HB2.out.size _).grown hgrow1 (by have := HB2.out.size; simp; omega) (fun jj hj => by
        cases q with
        | none => cases hj
        | some a => injection hj with hj; subst hj; exact h4 a rfl))
      exact ⟨⟨(k : Int) - 1, j + 1, p', c', by go_num, rfl, by omega, by omega, Lib.hid hown2, HBW⟩, by simp [intOf] <;> omega⟩
    · have e1 : decide ((0 : Int) ≤ i) = false := decide_eq_false hi0
      obtain rfl : j = n := by omega
      have htk : l.reverse.take j = l.reverse := by rw [← HN.out, ← List.length_reverse]; exact List.take_length
      have ho := HO.out
      rw [htk] at ho
      obtain ⟨p', c', e, h1, h2⟩ := row_ats (w := wr) (n := 0) (l := l.reverse) (B := W3.heap.size) (fun x hx => (HL.out x (List.mem_reverse.1 hx)).ok) (by rw [List.length_reverse, HN.out]; exact ho)
      injection e with e1' e2 e3
      subst e1'; subst e3
      have HB3 := keep HB HB2.out
      have HAT := Lib.hid h1.at
      clear hi0 ho h1 h2 e2 htk
      go_upto_region 8 with (go_at_call 9; refine (HNR.out _ _ _ HAT.out).mono ?_; rintro e W5 ⟨rfl, hB5⟩)
      have HB3 := keep HB3 hB5
      clear hB5
      go_wp2_with (go_at_call 11; refine (known_calls _ (HG.out.later HB3.out)).mono ?_; rintro e W4 ⟨rfl, hB4⟩; have HB3 := keep HB3 hB4; clear hB4)
      go_ret
      exact ⟨rfl, HB3.out⟩
end Go.Proofs.YtpaplobjmmpliaaDoor.Ad
