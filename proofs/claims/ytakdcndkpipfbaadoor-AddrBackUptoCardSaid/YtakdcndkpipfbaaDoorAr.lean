/- Contract of the reference's Kind. Conditions: an address has sixteen bytes. -/
import Derived.Test.YtakdcndkpipfbaaDoorAk
import Derived.Laws.BitsAllLaws
namespace Go.Proofs.YtakdcndkpipfbaaDoor.Ad
set_option linter.unusedVariables false
set_option linter.unusedSimpArgs false
open Go.RowKit W
def Addr.nth (a : Addr) (i : Nat) : Int := (a.b.getD i 0).toNat
theorem nth_in (a : Addr) (i : Nat) : 0 ≤ a.nth i ∧ a.nth i ≤ 255 := by
  unfold Addr.nth; have := (a.b.getD i 0).toNat_lt; omega
theorem ext16 {l m : List UInt8} (hl : l.length = 16) (hm : m.length = 16) (h : ∀ i, i < 16 → l.getD i 0 = m.getD i 0) : l = m := by
  apply List.ext_getElem (by omega)
  intro i h1 h2
  have := h i (by omega)
  rwa [List.getD_eq_getElem?_getD, List.getD_eq_getElem?_getD, List.getElem?_eq_getElem h1, List.getElem?_eq_getElem h2] at this
theorem nth_nz {a : Addr} {i : Nat} (h : a.nth i = 0) : a.b.getD i 0 = 0 := UInt8.toNat_inj.1 (by unfold Addr.nth at h; simpa using h)
theorem is_one {a : Addr} (ha : a.ok) (h : ∀ j, j < 15 → a.b.getD j 0 = 0) (h1 : a.nth 15 = 1) : a.b = one6 := ext16 ha rfl fun i hi => by
  rcases Nat.lt_or_ge i 15 with h2 | h2
  · rw [h i h2]; match i, h2 with
    | 0, _ => rfl
    | 1, _ => rfl
    | 2, _ => rfl
    | 3, _ => rfl
    | 4, _ => rfl
    | 5, _ => rfl
    | 6, _ => rfl
    | 7, _ => rfl
    | 8, _ => rfl
    | 9, _ => rfl
    | 10, _ => rfl
    | 11, _ => rfl
    | 12, _ => rfl
    | 13, _ => rfl
    | 14, _ => rfl
  · obtain rfl : i = 15 := by omega
    have e : (a.b.getD 15 0).toNat = 1 := by unfold Addr.nth at h1; omega
    exact UInt8.toNat_inj.1 (e.trans rfl)
theorem one_at (k : Nat) (hk : k < 16) (h : one6.getD k 0 ≠ 0) : k = 15 := by
  have : ∀ k : Fin 16, one6.getD k.val 0 ≠ 0 → k.val = 15 := by decide
  exact this ⟨k, hk⟩ h
theorem and4 (a b c d : Nat) (ha : a < 256) (hb : b < 256) (hc : c < 256) (hd : d < 256) : (Go.bits .and .u8 (Go.bits .and .u8 (Go.bits .and .u8 (a : Int) b) c) d == 255) = decide (a = 255 ∧ b = 255 ∧ c = 255 ∧ d = 255) := by
  have h1 : a &&& b ≤ a := Nat.and_le_left
  have h2 : a &&& b ≤ b := Nat.and_le_right
  have h3 : a &&& b &&& c ≤ a &&& b := Nat.and_le_left
  have h4 : a &&& b &&& c ≤ c := Nat.and_le_right
  have h5 : a &&& b &&& c &&& d ≤ a &&& b &&& c := Nat.and_le_left
  have h6 : a &&& b &&& c &&& d ≤ d := Nat.and_le_right
  rw [u8_and_nat a b ha hb, u8_and_nat _ c (by omega) hc, u8_and_nat _ d (by omega) hd]
  by_cases h : a = 255 ∧ b = 255 ∧ c = 255 ∧ d = 255
  · obtain ⟨rfl, rfl, rfl, rfl⟩ := h
    decide
  · rw [decide_eq_false h, beq_eq_false_iff_ne]
    intro h'
    have : a &&& b &&& c &&& d = 255 := Int.ofNat_inj.1 h'
    exact h ⟨by omega, by omega, by omega, by omega⟩
theorem is_bcast {a : Addr} (ha : a.ok) (hz : ∀ k, k < 12 → a.b.getD (4 + k) 0 = 0) : a.b = bcast ↔ (a.b.getD 0 0).toNat = 255 ∧ (a.b.getD 1 0).toNat = 255 ∧ (a.b.getD 2 0).toNat = 255 ∧ (a.b.getD 3 0).toNat = 255 := by
  constructor
  · intro h; rw [h]; decide
  · rintro ⟨h0, h1, h2, h3⟩
    refine ext16 ha rfl fun i hi => ?_
    rcases Nat.lt_or_ge i 4 with h4 | h4
    · match i, h4 with
      | 0, _ => exact UInt8.toNat_inj.1 h0
      | 1, _ => exact UInt8.toNat_inj.1 h1
      | 2, _ => exact UInt8.toNat_inj.1 h2
      | 3, _ => exact UInt8.toNat_inj.1 h3
    · have := hz (i - 4) (by omega)
      rw [show 4 + (i - 4) = i by omega] at this
      rw [this]
      have : ∀ j : Fin 12, bcast.getD (4 + j.val) 0 = 0 := by decide
      have := this ⟨i - 4, by omega⟩
      rw [show 4 + (i - 4) = i by omega] at this
      exact this.symm
theorem valid_zeros {a : Addr} (ha : a.ok) (hv : a.valid = true) (h6 : a.v ≠ 6) (k : Nat) (hk : k < 12) : a.b.getD (4 + k) 0 = 0 := by
  by_cases h : a.b.getD (4 + k) 0 = 0
  · exact h
  · have := Addr.bits_hole ha h6 k hk h
    unfold Addr.valid at hv; rw [this] at hv; cases hv
theorem bcast_iff {a : Addr} (ha : a.ok) (hv : a.valid = true) (h6 : a.v ≠ 6) : (Go.bits .and .u8 (Go.bits .and .u8 (Go.bits .and .u8 (a.nth 0) (a.nth 1)) (a.nth 2)) (a.nth 3) == 255) = decide (a.b = bcast) := by
  unfold Addr.nth
  rw [and4 _ _ _ _ (UInt8.toNat_lt _) (UInt8.toNat_lt _) (UInt8.toNat_lt _) (UInt8.toNat_lt _)]
  exact decide_eq_decide.2 (is_bcast ha fun k hk => valid_zeros ha hv h6 k hk).symm
set_option maxRecDepth 100000 in
set_option maxHeartbeats 1000000 in
theorem rkind_calls (a : Addr) (ha : a.ok) (w : World) : Calls Tryd.prog 15 #[.agg a.cells] w fun e w' => e = .returned (.int .i64 a.kind) ∧ Below w.heap.size w w' := by
  by_cases hval : a.valid = true
  · have HV := Lib.hid hval
    have f0 := nth_in a 0
    have f15 := nth_in a 15
    obtain ⟨f00, f01⟩ := f0
    obtain ⟨f150, f151⟩ := f15
    clear hval
    go_enter Tryd.func15, Tryd.ntmps15
    go_upto_region 1 with fail
    refine wp_named fun W hW => ?_
    obtain ⟨bk, BW, sW⟩ := box1 hW
    clear hW
    go_upto_region 4 with (first | (refine wpList_load_blk rfl 24 _ rfl w.heap.size 24 _ _ rfl bk.out Tryd.underlying24 rfl (by as_aux_lemma => exact szc ‹_›) ?_) | (go_at_call 13; refine (rvalid_calls a ha _).mono ?_; rintro e W1 ⟨rfl, hB⟩; rw [HV.out]; have bk1 := Lib.hid (bk.out.later hB (by rw [sW.out]; omega)); have BW1 := keep BW hB; clear hB))
    have b0 := cell_v bk1.out
    have n0 : W1.cell? ⟨w.heap.size, 1, none⟩ = some (.int .u8 (a.nth 0)) := cell_b bk1.out ha 0 (by omega)
    have n1 : W1.cell? ⟨w.heap.size, 2, none⟩ = some (.int .u8 (a.nth 1)) := cell_b bk1.out ha 1 (by omega)
    have n2 : W1.cell? ⟨w.heap.size, 3, none⟩ = some (.int .u8 (a.nth 2)) := cell_b bk1.out ha 2 (by omega)
    have n3 : W1.cell? ⟨w.heap.size, 4, none⟩ = some (.int .u8 (a.nth 3)) := cell_b bk1.out ha 3 (by omega)
    have n15 : W1.cell? ⟨w.heap.size, 16, none⟩ = some (.int .u8 (a.nth 15)) := cell_b bk1.out ha 15 (by omega)
    have hc : ∀ k : Nat, k < 16 → W1.cell? ⟨w.heap.size, 1 + k, none⟩ = some (.int .u8 (a.nth k)) := fun k hk => cell_b bk1.out ha k hk
    go_wp2
    go_loop [4] (fun i => ∃ k : Nat, k ≤ 16 ∧ (∀ j, j < k → a.b.getD j 0 = 0) ∧ i = .int .i64 k) (fun i => 16 - (intOf i).toNat)
    case atStart => exact ⟨0, by omega, fun j hj => by omega, rfl⟩
    case round =>
      obtain ⟨k, hk, hz, rfl⟩ := hrel
      have HZ := Lib.hid hz
      clear hz
      by_cases hlt : k < 16
      · have hck := hc k hlt
        clear hc
        by_cases hx : a.nth k = 0
        · rw [hx] at hck
          have HX := Lib.hid (nth_nz hx)
          clear hx
          go_wp2
          go_round
          case rel => exact ⟨k + 1, by omega, fun j hj => by rcases Nat.lt_or_ge j k with h | h; exact HZ.out j h; rw [show j = k by omega]; exact HX.out, by go_num⟩
          case measure => simp [intOf]; omega
        · have ex : (a.nth k == 0) = false := beq_eq_false_iff_ne.2 hx
          have e16 : ((k : Int) == 16) = false := beq_eq_false_iff_ne.2 (by omega)
          have hnz : ¬ a.b = zeros := fun h => hx (by unfold Addr.nth; rw [h]; have : ∀ j : Fin 16, ((zeros.getD j.val 0).toNat : Int) = 0 := by decide
                                                      exact this ⟨k, hlt⟩)
          by_cases h6 : a.v = 6
          · have e6 : (a.v == 6) = true := beq_iff_eq.2 h6
            by_cases h15 : k = 15
            · have e15 : ((k : Int) == 15) = true := beq_iff_eq.2 (by omega)
              by_cases h1 : a.nth 15 = 1
              · have e1 : (a.nth 15 == 1) = true := beq_iff_eq.2 h1
                have hone : a.b = one6 := is_one ha (fun j hj => HZ.out j (by omega)) h1
                have HR : Hid (a.kind = 2) := Lib.hid (by unfold Addr.kind; rw [if_neg (by rw [HV.out]; decide), if_neg hnz, if_pos h6, if_pos hone])
                clear hx hnz h6 h15 h1 hone
                go_wp2
                go_ret
                exact ⟨by rw [HR.out]; rfl, BW1.out⟩
              · have e1 : (a.nth 15 == 1) = false := beq_eq_false_iff_ne.2 h1
                have hone : ¬ a.b = one6 := fun h => h1 (by unfold Addr.nth; rw [h]; rfl)
                by_cases h255 : a.nth 0 = 255
                · have e255 : (a.nth 0 == 255) = true := beq_iff_eq.2 h255
                  have HR : Hid (a.kind = 3) := Lib.hid (by unfold Addr.kind; rw [if_neg (by rw [HV.out]; decide), if_neg hnz, if_pos h6, if_neg hone]; exact if_pos h255)
                  clear hx hnz h6 h15 h1 hone h255
                  go_wp2
                  go_ret
                  exact ⟨by rw [HR.out]; rfl, BW1.out⟩
                · have e255 : (a.nth 0 == 255) = false := beq_eq_false_iff_ne.2 h255
                  have HR : Hid (a.kind = 5) := Lib.hid (by unfold Addr.kind; rw [if_neg (by rw [HV.out]; decide), if_neg hnz, if_pos h6, if_neg hone]; exact if_neg h255)
                  clear hx hnz h6 h15 h1 hone h255
                  go_wp2
                  go_ret
                  exact ⟨by rw [HR.out]; rfl, BW1.out⟩
            · have e15 : ((k : Int) == 15) = false := beq_eq_false_iff_ne.2 (by omega)
              have hone : ¬ a.b = one6 := fun h => by
                have := nth_nz (a := a) (i := k)
                unfold Addr.nth at hx; rw [h] at hx
                exact h15 (one_at k hlt (fun h' => hx (by rw [h']; rfl)))
              by_cases h255 : a.nth 0 = 255
              · have e255 : (a.nth 0 == 255) = true := beq_iff_eq.2 h255
                have HR : Hid (a.kind = 3) := Lib.hid (by unfold Addr.kind; rw [if_neg (by rw [HV.out]; decide), if_neg hnz, if_pos h6, if_neg hone]; exact if_pos h255)
                clear hx hnz h6 h15 hone h255
                go_wp2
                go_ret
                exact ⟨by rw [HR.out]; rfl, BW1.out⟩
              · have e255 : (a.nth 0 == 255) = false := beq_eq_false_iff_ne.2 h255
                have HR : Hid (a.kind = 5) := Lib.hid (by unfold Addr.kind; rw [if_neg (by rw [HV.out]; decide), if_neg hnz, if_pos h6, if_neg hone]; exact if_neg h255)
                clear hx hnz h6 h15 hone h255
                go_wp2
                go_ret
                exact ⟨by rw [HR.out]; rfl, BW1.out⟩
          · have e6 : (a.v == 6) = false := beq_eq_false_iff_ne.2 h6
            have hbc := bcast_iff ha HV.out h6
            by_cases h127 : a.nth 0 = 127
            · have e127 : (a.nth 0 == 127) = true := beq_iff_eq.2 h127
              have HR : Hid (a.kind = 2) := Lib.hid (by unfold Addr.kind; rw [if_neg (by rw [HV.out]; decide), if_neg hnz, if_neg h6]; exact if_pos h127)
              clear hx hnz h6 hbc h127
              go_wp2
              go_ret
              exact ⟨by rw [HR.out]; rfl, BW1.out⟩
            · have e127 : (a.nth 0 == 127) = false := beq_eq_false_iff_ne.2 h127
              by_cases h14 : 224 ≤ a.nth 0 ∧ a.nth 0 ≤ 239
              · have e14 : (a.nth 0 / 16 == 14) = true := beq_iff_eq.2 (by omega)
                have HR : Hid (a.kind = 3) := Lib.hid (by unfold Addr.kind; rw [if_neg (by rw [HV.out]; decide), if_neg hnz, if_neg h6, if_neg (show ¬ a.first = 127 from h127), if_pos (show 224 ≤ a.first from h14.1)]; exact if_pos h14.2)
                clear hx hnz h6 hbc h127 h14
                go_wp2
                go_ret
                exact ⟨by rw [HR.out]; rfl, BW1.out⟩
              · have e14 : (a.nth 0 / 16 == 14) = false := beq_eq_false_iff_ne.2 (by omega)
                have hsel : ∀ q : Int, (if a.b = bcast then (4 : Int) else 5) = q → (if 224 ≤ a.first then (if a.first ≤ 239 then 3 else if a.b = bcast then 4 else 5) else if a.b = bcast then 4 else 5) = q := fun q hq => by
                  by_cases h : 224 ≤ a.first
                  · rw [if_pos h, if_neg (show ¬ a.first ≤ 239 from fun h' => h14 ⟨h, h'⟩)]; exact hq
                  · rw [if_neg h]; exact hq
                by_cases hb : a.b = bcast
                · rw [decide_eq_true hb] at hbc
                  have HR : Hid (a.kind = 4) := Lib.hid (by unfold Addr.kind; rw [if_neg (by rw [HV.out]; decide), if_neg hnz, if_neg h6, if_neg (show ¬ a.first = 127 from h127)]; exact hsel _ (if_pos hb))
                  clear hx hnz h6 h127 h14 hsel hb
                  go_wp2
                  go_ret
                  exact ⟨by rw [HR.out]; rfl, BW1.out⟩
                · rw [decide_eq_false hb] at hbc
                  have HR : Hid (a.kind = 5) := Lib.hid (by unfold Addr.kind; rw [if_neg (by rw [HV.out]; decide), if_neg hnz, if_neg h6, if_neg (show ¬ a.first = 127 from h127)]; exact hsel _ (if_neg hb))
                  clear hx hnz h6 h127 h14 hsel hb
                  go_wp2
                  go_ret
                  exact ⟨by rw [HR.out]; rfl, BW1.out⟩
      · have e16 : ((k : Int) == 16) = true := beq_iff_eq.2 (by omega)
        have hze : a.b = zeros := ext16 ha rfl fun i hi => by
          rw [HZ.out i (by omega)]
          have : ∀ j : Fin 16, (0 : UInt8) = zeros.getD j.val 0 := by decide
          exact this ⟨i, hi⟩
        clear hc
        have HR : Hid (a.kind = 1) := Lib.hid (by unfold Addr.kind; rw [if_neg (by rw [HV.out]; decide), if_pos hze])
        clear hze
        go_wp2
        go_ret
        exact ⟨by rw [HR.out]; rfl, BW1.out⟩
  · have hval' : a.valid = false := by simpa using hval
    have HV := Lib.hid hval'
    have HR : Hid (a.kind = 0) := Lib.hid (by unfold Addr.kind; rw [if_pos hval'])
    clear hval hval'
    go_enter Tryd.func15, Tryd.ntmps15
    go_upto_region 1 with fail
    refine wp_named fun W hW => ?_
    obtain ⟨bk, BW, sW⟩ := box1 hW
    clear hW
    go_wp2_with (first | (refine wpList_load_blk rfl 24 _ rfl w.heap.size 24 _ _ rfl bk.out Tryd.underlying24 rfl (by as_aux_lemma => exact szc ‹_›) ?_) | (go_at_call 13; refine (rvalid_calls a ha _).mono ?_; rintro e W1 ⟨rfl, hB⟩; rw [HV.out]; have bk1 := Lib.hid (bk.out.later hB (by rw [sW.out]; omega)); have BW1 := keep BW hB; clear hB))
    go_ret
    exact ⟨by rw [HR.out]; rfl, BW1.out⟩
end Go.Proofs.YtakdcndkpipfbaaDoor.Ad
