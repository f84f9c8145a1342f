/- Contract of the reference's parse6. Conditions: a text is shorter than 2^32. -/
import Derived.Test.YtpaplobjmmpliaaDoorAv
import Derived.Test.YtpaplobjmmpliaaDoorAy
namespace Go.Proofs.YtpaplobjmmpliaaDoor.Ad
set_option linter.unusedVariables false
set_option linter.unusedSimpArgs false
open Go.RowKit W
theorem ofGroups_ok (g : List Int) : (ofGroups g).ok := part_ok _ _ _
/-- No place before k stands for what is left out. -/
def NoGap (l : List UInt8) (k : Nat) : Prop := ∀ i x y, i < k → Lib.occAt l dd i = true → groupsV (l.take i) = some x → groupsV (l.drop (i + 2)) = some y → ¬ x.length + y.length ≤ 7
theorem NoGap.step {l : List UInt8} {k : Nat} (h : NoGap l k) (hk : ∀ x y, Lib.occAt l dd k = true → groupsV (l.take k) = some x → groupsV (l.drop (k + 2)) = some y → ¬ x.length + y.length ≤ 7) : NoGap l (k + 1) := by
  intro i x y hi
  rcases Nat.lt_or_ge i k with h1 | h1
  · exact h i x y h1
  · obtain rfl : i = k := by omega
    exact hk x y
theorem read6_no {l : List UInt8} {k : Nat} (h : NoGap l k) (hk : l.length < k + 2) (h8 : ∀ g, groupsV l = some g → g.length ≠ 8) : read6 l = none := by
  refine read6_none h8 fun i x y hi ho => ?_
  have := Lib.occAt_room ho
  simp [dd] at this
  exact h i x y (by omega) ho
theorem ext_take (s : ByteArray) (k : Nat) : (s.extract 0 k).data.toList = s.data.toList.take k := by rw [extract_toList]; simp
theorem ext_drop (s : ByteArray) (k : Nat) : (s.extract k s.size).data.toList = s.data.toList.drop k := by
  rw [extract_toList, List.take_of_length_le (by simp)]
theorem ext_occ (s : ByteArray) (k : Nat) (hk : k + 2 ≤ s.size) : ((s.extract k (k + 2)).toList == [58, 58]) = Lib.occAt s.data.toList dd k := by
  rw [Lib.occAt_iff_take _ _ _ (by simpa [dd] using hk), ByteArray.toList_eq, extract_toList, show k + 2 - k = 2 by omega]; rfl
theorem fill_step (x y : List Int) (j : Nat) (h : x.length + y.length + j = 8) : x ++ List.replicate j 0 ++ y = fill x y := by
  unfold fill; rw [show 8 - (x.length + y.length) = j by omega]
theorem fill_in {x y : List Int} (hx : ∀ n ∈ x, 0 ≤ n ∧ n ≤ 65535) (hy : ∀ n ∈ y, 0 ≤ n ∧ n ≤ 65535) : ∀ n ∈ fill x y, 0 ≤ n ∧ n ≤ 65535 := by
  intro n hn
  unfold fill at hn
  rcases List.mem_append.1 hn with hn | hn
  · rcases List.mem_append.1 hn with hn | hn
    · exact hx n hn
    · have := List.eq_of_mem_replicate hn; omega
  · exact hy n hn
theorem fill_len {x y : List Int} (h : x.length + y.length ≤ 7) : (fill x y).length = 8 := by unfold fill; simp; omega
theorem groups_of {s : ByteArray} {r : Option (List Int)} (hs : s.size ≤ 4294967296) (h : groupsV s.data.toList = r) : Hid (∀ w, Calls Tryd.prog 94 #[.string s] w (GroupsPost r w)) := Lib.hid fun w => by
  rw [← h]; exact rgroups_calls s hs w
theorem blk_grown {w w' : World} {g : Nat} {t : TypeId} {cs : Array Value} {row : Option Nat} (h : Blk w g t cs) (hg : w.grownBy w' row) (hr : ∀ k, row = some k → g ≠ k) : Blk w' g t cs := by
  have := hg.block g h.lt (fun e => hr g e.symm rfl)
  exact this.trans h
set_option maxRecDepth 100000 in
set_option maxHeartbeats 4000000 in
theorem parse6_calls (s : ByteArray) (hs : s.size ≤ 4294967296) (w : World) : Calls Tryd.prog 70 #[.string s] w fun e w' => e = .returned (.tuple #[.agg (ansA (read6 s.data.toList)).cells, .int .i64 (ansE (read6 s.data.toList))]) ∧ Below w.heap.size w w' := by
  have z0 := zero_ok
  have hll : s.data.toList.length = s.size := by simp
  obtain ⟨r, hr⟩ : ∃ r, groupsV s.data.toList = r := ⟨_, rfl⟩
  have HG := Lib.hid hr
  have C1 := groups_of hs hr
  clear hr
  go_enter Tryd.func70, Tryd.ntmps70
  go_upto_region 1 with fail
  refine wp_named fun W hW => ?_
  obtain ⟨bk, BW, sW⟩ := box1 (cs := zeroAd.cells) hW
  clear hW
  go_upto_region 2 with (go_at_call 94; (with_reducible refine (C1.out _).mono ?_); rintro e W1 ⟨v1, rfl, hr1, hb1⟩)
  have HB1 : Hid (Below w.heap.size w W1) := Lib.hid (BW.out.trans (hb1.mono (by rw [sW.out]; omega)))
  have HS1' : Hid (w.heap.size + 1 ≤ W1.heap.size) := Lib.hid (by have := hb1.size; rw [sW.out] at this; exact this)
  have bz1 := Lib.hid (bk.out.later hb1 (by rw [sW.out]; omega))
  by_cases h8 : ∃ g, r = some g ∧ g.length = 8
  · obtain ⟨gs, rfl, hg8⟩ := h8
    have HY : Hid (read6 s.data.toList = some (ofGroups gs)) := Lib.hid (read6_full HG.out hg8)
    have HI := Lib.hid (groupsV_in HG.out).2
    obtain ⟨g1, c1, rfl, hq1, hq2, hq3, hq4⟩ := Row.some (show Row enI W1 W.heap.size 3 v1 gs from hr1) hg8 (by omega)
    have hok := ofGroups_ok gs
    clear hr1 hb1
    go_wp2_with (first | (go_at_call 95; refine (fromGroups_calls gs g1 c1 hg8 HI _ hq4 hq2).mono ?_; rintro e W9 ⟨rfl, hB9⟩; have BZ9 := Lib.hid (bz1.out.later hB9 (by have := HS1'.out; omega))) | (refine wpList_store_blk rfl 35 _ _ rfl w.heap.size 35 zeroAd.cells (ofGroups gs).cells rfl rfl BZ9.out (by first | rfl | rw [csize hok, csize zero_ok]) (szc hok) (one_cells _) ?_; intro W10 P9))
    refine bodyPost_ret (v := .tuple #[.agg (ofGroups gs).cells, .int .i64 0]) (by exact results_cell2 (fn := Tryd.f70) rfl _ _ w.heap.size 35 _ _ rfl P9.blk Tryd.underlying35 rfl (szc hok)) rfl ⟨by rw [HY.out]; rfl, ?_⟩
    exact P9.below (HB1.out.trans (hB9.mono (by have := HS1'.out; omega))) (Nat.le_refl _) (by have := hB9.size; have := HS1'.out; omega)
  · have HN8 : Hid (∀ g, groupsV s.data.toList = some g → g.length ≠ 8) := Lib.hid fun g hg h => h8 ⟨g, by rw [← HG.out, hg], h⟩
    have hv : (r.isSome = false) ∨ (r.isSome = true ∧ ∃ (a : Option Go.Addr) (n c : Nat), v1 = .slice a n c ∧ ((n : Int) == 8) = false) := by
      cases r with
      | none => exact .inl rfl
      | some g =>
        refine .inr ⟨rfl, ?_⟩
        have hne : g.length ≠ 8 := fun h => h8 ⟨g, rfl, h⟩
        rcases Row.cells (show Row enI W1 W.heap.size 3 v1 g from hr1) with ⟨rfl, _⟩ | ⟨g1, c1, rfl, _⟩
        · exact ⟨none, 0, 0, rfl, rfl⟩
        · exact ⟨_, g.length, c1, rfl, beq_eq_false_iff_ne.2 (by omega)⟩
    clear h8 hr1 hb1 bk BW
    rcases hv with hv | ⟨hv, a1, n1, c1, rfl, hv1⟩
    all_goals (
      go_upto_region 4 with fail
      go_wp2
      go_loopw [6] (fun i wr => ∃ k : Nat, k ≤ s.size + 1 ∧ i = .int .i64 k ∧ NoGap s.data.toList k ∧ Below W1.heap.size W1 wr) (fun i _ => s.size + 1 - (intOf i).toNat)
      case atStart => exact ⟨0, by omega, rfl, fun i x y hi => by omega, Below.refl _ _⟩
      case round =>
        obtain ⟨k, hk, rfl, r0, r2⟩ := hrel
        obtain ⟨wo, rfl⟩ : ∃ wo : World, wo = wr := ⟨_, rfl⟩
        have R0 := Lib.hid r0
        have RB := Lib.hid r2
        have HS := Lib.hid r2.size
        have BZ := Lib.hid (bz1.out.later RB.out (by have := HS1'.out; omega))
        clear r0 r2
        by_cases hlt : k + 2 ≤ s.size
        · have hocc := ext_occ s k hlt
          obtain ⟨o, ho⟩ : ∃ o, Lib.occAt s.data.toList dd k = o := ⟨_, rfl⟩
          rw [ho] at hocc
          cases o
          · have R0' := Lib.hid (R0.out.step fun x y h => by rw [ho] at h; cases h)
            clear ho
            go_wp2
            go_roundw
            case rel => exact ⟨k + 1, by omega, by go_num, R0'.out, RB.out⟩
            case measure => simp [intOf]; omega
          · have HO := Lib.hid ho
            clear ho
            obtain ⟨rx, hrx⟩ : ∃ rx, groupsV (s.extract 0 k).data.toList = rx := ⟨_, rfl⟩
            obtain ⟨ry, hry⟩ : ∃ ry, groupsV (s.extract (k + 2) s.size).data.toList = ry := ⟨_, rfl⟩
            have CX := groups_of (by simp; omega) hrx
            have CY := groups_of (by simp; omega) hry
            rw [ext_take] at hrx
            rw [ext_drop] at hry
            have HX := Lib.hid hrx
            have HYY := Lib.hid hry
            clear hrx hry
            have hsz := HS
            go_upto_region 10 with (first | (go_at_call 94; (with_reducible refine (CX.out _).mono ?_); rintro e W3 ⟨v3, rfl, hr3, hb3⟩) | (go_at_call 94; (with_reducible refine (CY.out _).mono ?_); rintro e W4 ⟨v4, rfl, hr4, hb4⟩))
            have B3 : Hid (Below wo.heap.size wo W3) := Lib.hid hb3
            have B4 : Hid (Below wo.heap.size wo W4) := Lib.hid (hb3.trans (hb4.mono hb3.size))
            have BQ : Hid (Below W1.heap.size W1 W4) := Lib.hid (RB.out.trans (B4.out.mono HS.out))
            have BZ4 : Hid (Blk W4 w.heap.size 35 zeroAd.cells) := Lib.hid (BZ.out.later B4.out (by have := HS.out; have := HS1'.out; omega))
            have S4 : Hid (wo.heap.size ≤ W3.heap.size ∧ W3.heap.size ≤ W4.heap.size) := Lib.hid ⟨hb3.size, hb4.size⟩
            have RX4 : Hid (Row enI W4 wo.heap.size 3 v3 (rx.getD [])) := Lib.hid (hr3.later hb4)
            have RY4 : Hid (Row enI W4 W3.heap.size 3 v4 (ry.getD [])) := Lib.hid hr4
            have RXY : Hid (Apart v4 v3) := Lib.hid (Apart.of hr4 hr3 (Nat.le_refl _))
            clear hr3 hb3 hr4 hb4
            by_cases hxy : ∃ x y, rx = some x ∧ ry = some y ∧ x.length + y.length ≤ 7
            · obtain ⟨x, y, rfl, rfl, h7⟩ := hxy
              simp only [Option.isSome_some]
              obtain ⟨a3, c3, hv3⟩ := RX4.out.slice
              obtain ⟨a4, c4, hv4⟩ := RY4.out.slice
              simp only [Option.getD_some] at hv3 hv4 RX4 RY4
              obtain ⟨n3, hn3⟩ : ∃ n, x.length = n := ⟨_, rfl⟩
              obtain ⟨n4, hn4⟩ : ∃ n, y.length = n := ⟨_, rfl⟩
              have HY : Hid (read6 s.data.toList = some (ofGroups (fill x y))) := Lib.hid (read6_gap (by omega) HO.out HX.out HYY.out h7)
              have H7 := Lib.hid h7
              rw [hn3] at hv3 h7
              rw [hn4] at hv4 h7
              subst hv3
              subst hv4
              have HN3 := Lib.hid hn3
              have HN4 := Lib.hid hn4
              have HXI := Lib.hid (groupsV_in HX.out).2
              have HYI := Lib.hid (groupsV_in HYY.out).2
              have e7 : decide ((7 : Int) < (n3 : Int) + (n4 : Int)) = false := decide_eq_false (by omega)
              have e7' : decide (7 < n3 + n4) = false := decide_eq_false (by omega)
              have hok := ofGroups_ok (fill x y)
              clear hn3 hn4
              go_wp2
              go_loopw [7] (fun v wr => ∃ j : Nat, n3 + n4 + j ≤ 8 ∧ Row enI wr wo.heap.size 3 v (x ++ List.replicate j 0) ∧ Row enI wr W3.heap.size 3 (.slice a4 n4 c4) y ∧ Apart (.slice a4 n4 c4) v ∧ Below wo.heap.size wo wr) (fun v _ => 8 - (sliceLen v + n4))
              case atStart => exact ⟨0, by omega, by simpa using RX4.out, RY4.out, RXY.out, B4.out⟩
              case round =>
                obtain ⟨j, hj, q1, q2, q3, q4⟩ := hrel
                have Q1 := Lib.hid q1
                have Q2 := Lib.hid q2
                have Q3 := Lib.hid q3
                have Q4 := Lib.hid q4
                have QS := Lib.hid q4.size
                obtain ⟨a5, c5, hv5⟩ := q1.slice
                have hn5 : (x ++ List.replicate j 0).length = n3 + j := by simp; exact HN3.out
                rw [hn5] at hv5
                obtain ⟨n5, hn6⟩ : ∃ n, n3 + j = n := ⟨_, rfl⟩
                rw [hn6] at hv5 hn5
                have H6 := Lib.hid hn6
                have HXJ := Lib.hid hn5
                have h58 : n5 + n4 ≤ 8 := by omega
                clear q1 q2 q3 q4 hn5
                subst hv5
                by_cases hlt8 : n5 + n4 < 8
                · clear hn6
                  go_wp2_with (at_builtin; refine append_one_at (enc := enI) (fun _ => rfl) 52 Tryd.underlying52 el_int rfl _ _ rfl rfl (Q1.out.alloc _) 0 wr.heap.size rfl (cell_new _ _ _) (by rw [HXJ.out]; omega) (by simp; exact Nat.le_succ_of_le QS.out) ?_; intro v' wz hrz hgz haz)
                  refine ⟨⟨j + 1, by have := H6.out; omega, ?_, Row.kept (Q2.out.alloc _) hgz Q3.out, Q3.out.grow (Q2.out.alloc _) haz, Row.below (Q1.out.alloc _) hgz (Q4.out.alloc QS.out _) (Nat.le_refl _) (by simp; exact Nat.le_succ_of_le QS.out)⟩, ?_⟩
                  · rw [List.replicate_succ', ← List.append_assoc]; exact hrz
                  · have h9 := hrz.len
                    rw [h9]
                    simp only [List.length_append, List.length_cons, List.length_nil]
                    rw [← List.length_append, HXJ.out]
                    show _ < 8 - (n5 + n4)
                    omega
                · have HJ : Hid (x ++ List.replicate j 0 ++ y = fill x y) := Lib.hid (fill_step x y j (by rw [HN3.out, HN4.out]; omega))
                  have BZq : Hid (Blk wr w.heap.size 35 zeroAd.cells) := Lib.hid (BZ.out.later Q4.out (by have := HS.out; have := HS1'.out; omega))
                  clear hn6
                  go_wp2_with (first | (at_builtin; refine append_row (enc := enI) (fun _ => rfl) 52 Tryd.underlying52 el_int rfl _ _ rfl rfl Q1.out rfl Q2.out (by rw [HXJ.out, HN4.out]; omega) QS.out ?_; intro v' wz hrz hgz; obtain ⟨gz, cz, rfl, hz1, hz2, hz3, hz4⟩ := hrz.some (n := 8) (by rw [HJ.out]; exact fill_len H7.out) (by omega); rw [HJ.out] at hz4) | (go_at_call 95; refine (fromGroups_calls (fill x y) gz cz (fill_len H7.out) (Lib.hid (fill_in HXI.out HYI.out)) _ hz4 hz2).mono ?_; rintro e W9 ⟨rfl, hB9⟩; have BZz := Lib.hid (blk_grown BZq.out hgz (fun k hk => by have := Q1.out.lt k hk; have := HS.out; have := HS1'.out; omega)); have BZ9 := Lib.hid (BZz.out.later hB9 (by have := hgz.size; have := QS.out; have := HS.out; have := HS1'.out; omega))) | (refine wpList_store_blk rfl 35 _ _ rfl w.heap.size 35 zeroAd.cells (ofGroups (fill x y)).cells rfl rfl BZ9.out (by first | rfl | rw [csize hok, csize zero_ok]) (szc hok) (one_cells _) ?_; intro W10 P9))
                  refine bodyPost_ret (v := .tuple #[.agg (ofGroups (fill x y)).cells, .int .i64 0]) (by exact results_cell2 (fn := Tryd.f70) rfl _ _ w.heap.size 35 _ _ rfl P9.blk Tryd.underlying35 rfl (szc hok)) rfl ⟨by rw [HY.out]; rfl, ?_⟩
                  exact P9.below (HB1.out.trans ((RB.out.trans ((Q4.out.mono HS.out).grown hgz (Nat.le_trans HS.out QS.out) (fun q hq => by have := Q1.out.lt q hq; have := HS.out; omega))).trans (hB9.mono (by have := hgz.size; have := QS.out; have := HS.out; omega)) |>.mono (by have := HS1'.out; omega))) (Nat.le_refl _) (by have := hB9.size; have := hgz.size; have := QS.out; have := HS.out; have := HS1'.out; omega)
            · have R0' := Lib.hid (R0.out.step fun x y _ hx hy h => hxy ⟨x, y, by rw [← HX.out, hx], by rw [← HYY.out, hy], h⟩)
              have hb : rx.isSome = false ∨ (rx.isSome = true ∧ ry.isSome = false) ∨ ∃ (a3 : Option Go.Addr) (n3 c3 : Nat) (a4 : Option Go.Addr) (n4 c4 : Nat), v3 = .slice a3 n3 c3 ∧ v4 = .slice a4 n4 c4 ∧ 7 < n3 + n4 ∧ n3 ≤ 4294967297 ∧ n4 ≤ 4294967297 ∧ rx.isSome = true ∧ ry.isSome = true := by
                cases rx with
                | none => exact .inl rfl
                | some x =>
                  cases ry with
                  | none => exact .inr (.inl ⟨rfl, rfl⟩)
                  | some y =>
                    obtain ⟨a3, c3, hv3⟩ := RX4.out.slice
                    obtain ⟨a4, c4, hv4⟩ := RY4.out.slice
                    have h1 := (groupsV_in HX.out).1
                    have h2 := (groupsV_in HYY.out).1
                    simp at h1 h2
                    exact .inr (.inr ⟨a3, x.length, c3, a4, y.length, c4, hv3, hv4, by have : ¬ x.length + y.length ≤ 7 := fun h => hxy ⟨x, y, rfl, rfl, h⟩
                                                                                       omega, by omega, by omega, rfl, rfl⟩)
              clear hxy
              rcases hb with hb | ⟨hb, hb'⟩ | ⟨a3, n3, c3, a4, n4, c4, rfl, rfl, h7, hb3, hb4, hb5, hb6⟩
              · go_wp2
                all_goals (
                  go_roundw
                  case rel => exact ⟨k + 1, by omega, by go_num, R0'.out, BQ.out⟩
                  case measure => simp [intOf]; omega)
              · go_wp2
                all_goals (
                  go_roundw
                  case rel => exact ⟨k + 1, by omega, by go_num, R0'.out, BQ.out⟩
                  case measure => simp [intOf]; omega)
              · have e7 : decide ((7 : Int) < (n3 : Int) + (n4 : Int)) = true := decide_eq_true (by omega)
                have e7' : decide (7 < n3 + n4) = true := decide_eq_true h7
                go_wp2
                all_goals (
                  go_roundw
                  case rel => exact ⟨k + 1, by omega, by go_num, R0'.out, BQ.out⟩
                  case measure => simp [intOf]; omega)
        · have HY : Hid (read6 s.data.toList = none) := Lib.hid (read6_no R0.out (by omega) HN8.out)
          have hok := zero_ok
          go_wp2_with (refine wpList_store_blk rfl 35 _ _ rfl w.heap.size 35 zeroAd.cells zeroAd.cells rfl rfl BZ.out (by first | rfl | rw [csize zero_ok, csize zero_ok]) (szc zero_ok) (one_cells _) ?_; intro W10 P9)
          refine bodyPost_ret (v := .tuple #[.agg (zeroAd).cells, .int .i64 30]) (by exact results_cell2 (fn := Tryd.f70) rfl _ _ w.heap.size 35 _ _ rfl P9.blk Tryd.underlying35 rfl (szc hok)) rfl ⟨by rw [HY.out]; rfl, ?_⟩
          exact P9.below (HB1.out.trans (RB.out.mono (by have := HS1'.out; omega))) (Nat.le_refl _) (by have := HS.out; have := HS1'.out; omega))
end Go.Proofs.YtpaplobjmmpliaaDoor.Ad
