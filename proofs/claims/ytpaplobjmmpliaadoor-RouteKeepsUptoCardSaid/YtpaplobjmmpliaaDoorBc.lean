/- Contract of addr.groups. Conditions: a text is shorter than 2^32 - 15; the library's own variable holds a number. -/
import Derived.Test.YtpaplobjmmpliaaDoorBb
import Derived.Test.YtpaplobjmmpliaaDoorSh
import Derived.Lib.AppendIntMem
namespace Go.Proofs.YtpaplobjmmpliaaDoor.Ad
set_option linter.unusedVariables false
set_option linter.unusedSimpArgs false
open Go.RowKit W
/-- What the library's own variables hold: MaxLen a number, the tables what the text lays. -/
structure Gl (w : World) : Prop where
  max : ∃ m, w.cell? ⟨0, 0, none⟩ = some (.int .i64 m)
theorem Gl.later {w w' : World} (h : Gl w) (hb : Below w.heap.size w w') : Gl w' := by
  obtain ⟨m, hm⟩ := h
  exact ⟨m, (hb.cell (World.block_lt_of_cell? w _ hm)).trans hm⟩
theorem split_calls (s : ByteArray) (c : UInt8) (hs : s.size < 4294967281) (w : World) (hg : Gl w) : Calls Tryd.prog 91 #[.string s, .string ⟨#[c]⟩] w fun e w' =>
    e = .returned (.slice (some ⟨w.heap.size, 0, none⟩) (cutsB c s).length (cutsB c s).length) ∧ w' = w.alloc (.cells ((cutsB c s).map Value.string).toArray 9) := by
  obtain ⟨m, hm⟩ := hg.max
  have h := Tryd.strings_Split s ⟨#[c]⟩ m w hs hm (Nat.le_refl 1)
  rw [splitB_cutsB, countB_cutsB] at h
  exact h
def enH (n : Int) : Value := .int .u16 n
theorem el_u16 : Elem Tryd.prog 128 := ⟨.int .u16 0, 2, by kernel_rfl, rfl, by decide⟩
def GroupsPost2 (r : Option (List Int)) (w : World) (e : Ending) (w' : World) : Prop := ∃ v, e = .returned (.tuple #[v, .bool r.isSome]) ∧ Row enH w' w.heap.size 128 v (r.getD []) ∧ Below w.heap.size w w'
set_option maxRecDepth 100000 in
set_option maxHeartbeats 4000000 in
theorem groups_calls (s : ByteArray) (hs : s.size < 4294967281) (w : World) (hgl : Gl w) : Calls Tryd.prog 93 #[.string s] w (GroupsPost2 (groupsV s.data.toList) w) := by
  have GL := Lib.hid hgl
  clear hgl
  by_cases h0 : s.size = 0
  · have hl : s.data.toList = [] := List.eq_nil_of_length_eq_zero (by simpa using h0)
    have he' : s.toList = [] := by rw [ByteArray.toList_eq]; exact hl
    have he : s.toList.isEmpty = true := by rw [he']; rfl
    have HG : Hid (GroupsPost2 (groupsV s.data.toList) w (.returned (.tuple #[.slice none 0 0, .bool true])) w) := Lib.hid (by unfold groupsV; rw [if_pos hl]; exact ⟨_, rfl, Row.nil _ _ _ _, Below.refl _ _⟩)
    generalize hP : GroupsPost2 (groupsV s.data.toList) w = P at HG ⊢
    clear hP h0 hl
    go_enter Tryd.func93, Tryd.ntmps93
    go_wp2
    exact HG.out
  · have hl : s.data.toList ≠ [] := fun h => h0 (by have := congrArg List.length h; simpa using this)
    have he : s.toList.isEmpty = false := by
      rw [ByteArray.toList_eq]; cases h : s.data.toList with
      | nil => exact absurd h hl
      | cons => rfl
    have he' : s.toList ≠ [] := by rw [ByteArray.toList_eq]; exact hl
    have HR : Hid (groupsV s.data.toList = nums (cuts 58 s.data.toList)) := Lib.hid (if_neg hl)
    clear h0 hl
    generalize hP : GroupsPost2 (groupsV s.data.toList) w = P
    have HP := Lib.hid hP
    clear hP
    obtain ⟨N, hN⟩ : ∃ N, (cutsB 58 s).length = N := ⟨_, rfl⟩
    have hlen : N ≤ 4294967297 := by
      rw [← hN, cutsB_len]; have := cuts_le 58 s.data.toList; have h2 : s.data.toList.length = s.size := by simp
      omega
    have CS := split_calls s 58 hs
    rw [hN] at CS
    have CS' := Lib.hid CS
    have HN := Lib.hid hN
    clear hN CS
    go_enter Tryd.func93, Tryd.ntmps93
    go_upto_region 5 with (go_at_call 91; refine (CS'.out _ GL.out).mono ?_; rintro e W1 ⟨rfl, hw⟩; have hw1 := Lib.hid hw; clear hw)
    have hb1 : Hid (Below w.heap.size w W1) := Lib.hid (by rw [hw1.out]; exact (Below.refl _ _).alloc (Nat.le_refl _) _)
    have bk1 : Hid (Blk W1 w.heap.size 9 ((cutsB 58 s).map Value.string).toArray) := Lib.hid (by rw [hw1.out]; exact Blk.new _ _ _)
    have HS1 : Hid (w.heap.size + 1 ≤ W1.heap.size) := Lib.hid (by rw [hw1.out]; simp)
    clear hw1
    go_wp2
    go_loopw [4, 15] (fun v i wr => ∃ (k : Nat) (done : List Int), k ≤ N ∧ i = .int .i64 k ∧ done.length = k ∧ Row enH wr W1.heap.size 128 v done ∧ Below W1.heap.size W1 wr ∧ nums (cuts 58 s.data.toList) = (nums ((cuts 58 s.data.toList).drop k)).map (done ++ ·)) (fun _ i _ => N - (intOf i).toNat)
    case atStart => exact ⟨0, [], by omega, rfl, rfl, Row.nil _ _ _ _, Below.refl _ _, by simp⟩
    case round =>
      obtain ⟨k, done, hk, rfl, hdl, r1, r2, r3⟩ := hrel
      obtain ⟨wo, rfl⟩ : ∃ wo : World, wo = wr := ⟨_, rfl⟩
      have RO := Lib.hid r1
      have RB := Lib.hid r2
      have RN := Lib.hid r3
      have HS := Lib.hid r2.size
      have hn : done.length ≤ 1099511627776 := by omega
      have HDL := Lib.hid hdl
      clear r1 r2 r3 hdl
      by_cases hlt : k < N
      · obtain ⟨p, hp, hpl, hps'⟩ := cutsB_getD 58 s k (by rw [HN.out]; exact hlt)
        have hck : wo.cell? ⟨w.heap.size, k, none⟩ = some (.string p) := (RB.out.cell (by have := HS1.out; simp; omega)).trans (by rw [bk1.out.cell]; simp [hp])
        have hps : p.size ≤ 4294967296 := by omega
        obtain ⟨q, hq⟩ : ∃ q, numV p.data.toList 16 4 = q := ⟨_, rfl⟩
        have hst := nums_step RN.out (by rw [← cutsB_len, HN.out]; exact hlt)
        rw [← hpl, hq] at hst
        obtain ⟨hst1, hst2⟩ := hst
        have HQ := Lib.hid hq
        have hsz : p.data.toList.length = p.size := by simp
        clear hp hpl hps' hq
        by_cases hp0 : p.size < 1
        · have e0 : decide ((p.size : Int) < 1) = true := decide_eq_true (by omega)
          have e0' : decide (p.size < 1) = true := decide_eq_true hp0
          have hq1 : q < 0 := by rw [← HQ.out]; unfold numV; rw [if_pos (by omega)]; decide
          have HNN : Hid (GroupsPost2 (groupsV s.data.toList) w = GroupsPost2 none w) := Lib.hid (by rw [HR.out, hst1 hq1])
          clear hst1 hst2 hp0 hsz hq1
          go_wp2
          rw [← HP.out, HNN.out]
          exact ⟨_, rfl, Row.nil _ _ _ _, hb1.out.trans (RB.out.mono (by have := HS1.out; omega))⟩
        · have e0 : decide ((p.size : Int) < 1) = false := decide_eq_false (by omega)
          have e0' : decide (p.size < 1) = false := decide_eq_false hp0
          by_cases hp4 : 4 < p.size
          · have e1 : decide ((4 : Int) < (p.size : Int)) = true := decide_eq_true (by omega)
            have e1' : decide (4 < p.size) = true := decide_eq_true hp4
            have hq1 : q < 0 := by rw [← HQ.out]; unfold numV; rw [if_neg (by omega), if_pos (by omega)]; decide
            have HNN : Hid (GroupsPost2 (groupsV s.data.toList) w = GroupsPost2 none w) := Lib.hid (by rw [HR.out, hst1 hq1])
            clear hst1 hst2 hp0 hp4 hsz hq1
            go_wp2
            rw [← HP.out, HNN.out]
            exact ⟨_, rfl, Row.nil _ _ _ _, hb1.out.trans (RB.out.mono (by have := HS1.out; omega))⟩
          · have e1 : decide ((4 : Int) < (p.size : Int)) = false := decide_eq_false (by omega)
            have e1' : decide (4 < p.size) = false := decide_eq_false hp4
            have hpm : p.size ≤ 4 := by omega
            have HQ2 : Hid (q = foldD 16 p.data.toList 0) := Lib.hid (by rw [← HQ.out]; unfold numV; rw [if_neg (by omega), if_neg (by omega)])
            have HST1 := Lib.hid hst1
            have HST2 := Lib.hid hst2
            clear hp0 hp4 hsz hst1 hst2
            go_upto_region 11 with (refine wpList_conv rfl 9 67 5 Tryd.underlying9 Tryd.underlying67 Tryd.underlying5 _ rfl p rfl ?_; intro gb cb W3 hb3 hg3 hgl3 hc3)
            have RB3 := Lib.hid (RB.out.trans (hb3.mono HS.out))
            have RO3 := Lib.hid (RO.out.later hb3)
            have HB3 := Lib.hid hb3
            have HC3 := hc3
            have HG3 := Lib.hid hgl3
            clear hb3 hg3 hgl3 hc3
            go_wp2
            go_loopw [7, 30] (fun n jj wr => ∃ (j : Nat) (acc : Int), j ≤ p.size ∧ jj = .int .i64 j ∧ n = .int .i64 acc ∧ 0 ≤ acc ∧ acc < 16 ^ j ∧ foldD 16 p.data.toList 0 = foldD 16 (p.data.toList.drop j) acc ∧ wr = W3) (fun _ jj _ => p.size - (intOf jj).toNat)
            case atStart => exact ⟨0, 0, by omega, rfl, rfl, by omega, by omega, rfl, rfl⟩
            case round =>
              obtain ⟨j, acc, hj, rfl, rfl, ha0, ha1, hf, rfl⟩ := hrel
              by_cases hltj : j < p.size
              · obtain ⟨z, hz⟩ : ∃ z : Int, (p[j].toNat : Int) = z := ⟨_, rfl⟩
                have hcz : wr.cell? ⟨gb, j, none⟩ = some (.int .u8 z) := by rw [HC3.out j hltj, byte_toList p j hltj, hz]
                have hz0 : 0 ≤ z := by omega
                have hz1 : z ≤ 255 := by have := p[j].toNat_lt; omega
                obtain ⟨d, hd⟩ : ∃ d, digitI z = d := ⟨_, rfl⟩
                have HF : Hid (foldD 16 p.data.toList 0 = if 16 ≤ d then -1 else foldD 16 (p.data.toList.drop (j + 1)) (acc * 16 + d)) := Lib.hid (by rw [hf, drop_byte p j hltj, foldD]; unfold digitV; rw [hz, hd])
                have hp : (16 : Int) ^ j ≤ 4096 := by
                  have : (16 : Nat) ^ j ≤ 16 ^ 3 := Nat.pow_le_pow_right (by omega) (by omega)
                  have h2 : ((16 ^ j : Nat) : Int) ≤ ((16 ^ 3 : Nat) : Int) := by omega
                  simpa using h2
                have HA : Hid (acc < 16 ^ j) := Lib.hid ha1
                have ha2 : acc < 4096 := by omega
                have RB4 : Hid (wr = wr) := Lib.hid rfl
                clear hf ha1 hp hz
                unfold digitI at hd
                by_cases a1 : 48 ≤ z
                · have f1 : decide (48 ≤ z) = true := decide_eq_true a1
                  rw [if_pos a1] at hd
                  by_cases a2 : z ≤ 57
                  · have f2 : decide (z ≤ 57) = true := decide_eq_true a2
                    rw [if_pos a2] at hd
                    subst hd
                    have HS2 : Hid (foldD 16 p.data.toList 0 = foldD 16 (p.data.toList.drop (j + 1)) (acc * 16 + (z - 48))) := Lib.hid (by rw [HF.out, if_neg (by omega)])
                    clear f1
                    go_wp2
                    exact ⟨⟨j + 1, acc * 16 + (z - 48), by omega, by go_num, by simp; omega, by omega, by rw [Int.pow_succ]; have := HA.out; omega, HS2.out, trivial⟩, by simp [intOf]; omega⟩
                  · have f2 : decide (z ≤ 57) = false := decide_eq_false a2
                    rw [if_neg a2] at hd
                    by_cases a3 : 97 ≤ z
                    · have f3 : decide (97 ≤ z) = true := decide_eq_true a3
                      rw [if_pos a3] at hd
                      by_cases a4 : z ≤ 102
                      · have f4 : decide (z ≤ 102) = true := decide_eq_true a4
                        rw [if_pos a4] at hd
                        subst hd
                        have HS2 : Hid (foldD 16 p.data.toList 0 = foldD 16 (p.data.toList.drop (j + 1)) (acc * 16 + (z - 97 + 10))) := Lib.hid (by rw [HF.out, if_neg (by omega)])
                        clear f1
                        go_wp2
                        exact ⟨⟨j + 1, acc * 16 + (z - 97 + 10), by omega, by go_num, by simp; omega, by omega, by rw [Int.pow_succ]; have := HA.out; omega, HS2.out, trivial⟩, by simp [intOf]; omega⟩
                      · have f4 : decide (z ≤ 102) = false := decide_eq_false a4
                        rw [if_neg a4, if_pos (by omega), if_neg (by omega)] at hd
                        have f5 : decide (65 ≤ z) = true := decide_eq_true (by omega)
                        have f6 : decide (z ≤ 70) = false := decide_eq_false (by omega)
                        subst hd
                        have HNN : Hid (GroupsPost2 (groupsV s.data.toList) w = GroupsPost2 none w) := Lib.hid (by rw [HR.out, HST1.out (by rw [HQ2.out, HF.out, if_pos (by omega)]; omega)])
                        clear f1
                        go_wp2
                        rw [← HP.out, HNN.out]
                        exact ⟨_, rfl, Row.nil _ _ _ _, hb1.out.trans (RB3.out.mono (by have := HS1.out; omega))⟩
                    · have f3 : decide (97 ≤ z) = false := decide_eq_false a3
                      rw [if_neg a3] at hd
                      by_cases a5 : 65 ≤ z
                      · have f5 : decide (65 ≤ z) = true := decide_eq_true a5
                        rw [if_pos a5] at hd
                        by_cases a6 : z ≤ 70
                        · have f6 : decide (z ≤ 70) = true := decide_eq_true a6
                          rw [if_pos a6] at hd
                          subst hd
                          have HS2 : Hid (foldD 16 p.data.toList 0 = foldD 16 (p.data.toList.drop (j + 1)) (acc * 16 + (z - 65 + 10))) := Lib.hid (by rw [HF.out, if_neg (by omega)])
                          clear f1
                          go_wp2
                          exact ⟨⟨j + 1, acc * 16 + (z - 65 + 10), by omega, by go_num, by simp; omega, by omega, by rw [Int.pow_succ]; have := HA.out; omega, HS2.out, trivial⟩, by simp [intOf]; omega⟩
                        · have f6 : decide (z ≤ 70) = false := decide_eq_false a6
                          rw [if_neg a6] at hd
                          subst hd
                          have HNN : Hid (GroupsPost2 (groupsV s.data.toList) w = GroupsPost2 none w) := Lib.hid (by rw [HR.out, HST1.out (by rw [HQ2.out, HF.out, if_pos (by omega)]; omega)])
                          clear f1
                          go_wp2
                          rw [← HP.out, HNN.out]
                          exact ⟨_, rfl, Row.nil _ _ _ _, hb1.out.trans (RB3.out.mono (by have := HS1.out; omega))⟩
                      · have f5 : decide (65 ≤ z) = false := decide_eq_false a5
                        rw [if_neg a5] at hd
                        subst hd
                        have HNN : Hid (GroupsPost2 (groupsV s.data.toList) w = GroupsPost2 none w) := Lib.hid (by rw [HR.out, HST1.out (by rw [HQ2.out, HF.out, if_pos (by omega)]; omega)])
                        clear f1
                        go_wp2
                        rw [← HP.out, HNN.out]
                        exact ⟨_, rfl, Row.nil _ _ _ _, hb1.out.trans (RB3.out.mono (by have := HS1.out; omega))⟩
                · have f1 : decide (48 ≤ z) = false := decide_eq_false a1
                  have f3 : decide (97 ≤ z) = false := decide_eq_false (by omega)
                  have f5 : decide (65 ≤ z) = false := decide_eq_false (by omega)
                  rw [if_neg a1] at hd
                  subst hd
                  have HNN : Hid (GroupsPost2 (groupsV s.data.toList) w = GroupsPost2 none w) := Lib.hid (by rw [HR.out, HST1.out (by rw [HQ2.out, HF.out, if_pos (by omega)]; omega)])
                  clear f1
                  go_wp2
                  rw [← HP.out, HNN.out]
                  exact ⟨_, rfl, Row.nil _ _ _ _, hb1.out.trans (RB3.out.mono (by have := HS1.out; omega))⟩
              · have hqa : q = acc := by rw [HQ2.out, hf, List.drop_eq_nil_of_le (by simp; omega)]; rfl
                have ha3 : acc ≤ 65535 := by
                  have h1 : (16 : Nat) ^ j ≤ 16 ^ 4 := Nat.pow_le_pow_right (by omega) (by omega)
                  have h2 : ((16 ^ j : Nat) : Int) ≤ ((16 ^ 4 : Nat) : Int) := by omega
                  simp at h2
                  omega
                subst hqa
                have HST2' := Lib.hid (HST2.out (by omega))
                clear hf ha1
                go_wp2_with (at_builtin; refine append_one (enc := enH) (fun _ => rfl) 125 Tryd.underlying125 el_u16 rfl _ _ rfl rfl (RO3.out.alloc _) _ wr.heap.size rfl (cell_new _ _ _) hn (by simp; have := HB3.out.size; have := HS.out; omega) ?_; intro v' w2 hr2 hg2)
                have RB4 := Row.below (RO3.out.alloc _) hg2 (RB3.out.alloc (by have := HB3.out.size; have := HS.out; omega) _) (Nat.le_refl _) (by simp; have := HB3.out.size; have := HS.out; omega)
                exact ⟨⟨k + 1, _, by omega, by go_num, by simp; exact HDL.out, hr2, RB4, HST2'.out⟩, by simp [intOf]; omega⟩
      · obtain rfl : k = N := by omega
        have HNN : Hid (GroupsPost2 (groupsV s.data.toList) w = GroupsPost2 (some done) w) := Lib.hid (by rw [HR.out, nums_end RN.out (by rw [← cutsB_len, HN.out]; exact Nat.le_refl _)])
        go_wp2
        rw [← HP.out, HNN.out]
        exact ⟨_, rfl, RO.out.mono (by have := HS1.out; omega), hb1.out.trans (RB.out.mono (by have := HS1.out; omega))⟩
end Go.Proofs.YtpaplobjmmpliaaDoor.Ad
