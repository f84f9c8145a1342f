/- Contracts of the law's own bit and lies. Conditions: addresses have sixteen bytes; the route may be, the address counts. -/
import Derived.Test.YtpaplobjmmpliaaDoorRq
namespace Go.Proofs.YtpaplobjmmpliaaDoor.Ad
set_option linter.unusedVariables false
set_option linter.unusedSimpArgs false
open Go.RowKit Go.Maps W
theorem bit_wide : ∀ (x : Fin 256) (k : Fin 8), Go.bits .and .i64 (wrap64 ((x.val : Int) / 2 ^ (7 - k.val))) 1 = Go.bits .and .u8 ((x.val : Int) / 2 ^ (7 - k.val)) 1 := by decide +kernel
set_option maxRecDepth 100000 in
set_option maxHeartbeats 4000000 in
theorem lbit_calls (a : Addr) (hb : a.ok) (n : Nat) (hn : n < 128) (w : World) : Calls Tryd.prog 37 #[.agg a.cells, .int .i64 n] w fun e w' => e = .returned (.int .i64 (a.bitAt n)) ∧ Below w.heap.size w w' := by
  go_enter Tryd.func37, Tryd.ntmps37
  go_upto_region 1 with fail
  refine wp_named fun W hW => ?_
  obtain ⟨bk, BW, sW⟩ := box1 hW
  clear hW
  have hc : W.cell? ⟨w.heap.size, 1 + n / 8, none⟩ = some (.int .u8 (a.b.getD (n / 8) 0).toNat) := cell_b bk.out hb _ (by omega)
  obtain ⟨x, hx⟩ : ∃ x, (a.b.getD (n / 8) 0) = x := ⟨_, rfl⟩
  rw [hx] at hc
  have HX := Lib.hid hx
  clear hx
  have hm : n % 8 < 8 := Nat.mod_lt _ (by omega)
  have HR : Hid (a.bitAt n = Go.bits .and .i64 (wrap64 ((x.toNat : Int) / 2 ^ (7 - n % 8))) 1) := Lib.hid (by unfold Addr.bitAt; rw [HX.out]; exact (bit_wide ⟨x.toNat, x.toNat_lt⟩ ⟨n % 8, hm⟩).symm)
  go_wp2
  go_ret
  exact ⟨by rw [HR.out]; rfl, BW.out⟩
theorem within_va {a : Addr} {x : Rt} (hx : x.one = true) (h : ¬ a.v = x.net.v) : a.within x.net x.bits = false := by
  cases hw : a.within x.net x.bits with
  | false => rfl
  | true =>
    have h1 := within_pos hw
    have h2 := h1.2.2
    unfold Addr.mask at h2
    rw [if_pos h1.1, if_pos h1.2.1] at h2
    exact absurd (congrArg Addr.v h2) h
set_option maxRecDepth 100000 in
set_option maxHeartbeats 4000000 in
theorem lies_calls (a : Addr) (ha : a.ok) (hv : a.valid = true) (x : Rt) (hx : x.ok) (ho : x.one = true) (w : World) : Calls Tryd.prog 20 #[.agg a.vals.toArray, .agg x.vals.toArray] w fun e w' => e = .returned (.bool (a.within x.net x.bits)) ∧ Below w.heap.size w w' := by
  by_cases hav : a.v = x.net.v
  · have h1 := one_iff.1 ho
    obtain ⟨m, hm⟩ := Int.eq_ofNat_of_zero_le h1.2.2.2.1
    have hw : (m : Int) ≤ a.width := by
      have : a.width = x.net.width := by unfold Addr.width; rw [hav]
      rw [this, ← hm]; exact h1.2.2.2.2.1
    have hm8 : m ≤ 128 := by
      have : a.width ≤ 128 := by unfold Addr.width; split <;> omega
      omega
    obtain ⟨b, hb⟩ : ∃ b, a.within x.net x.bits = b := ⟨_, rfl⟩
    have HR : Hid (b = decide (∀ i, i < m → a.bitAt i = x.net.bitAt i)) := Lib.hid (by rw [← hb, hm]; exact within_in ha hx hv h1.1 hav hw)
    rw [hb]
    have HBM := Lib.hid hm
    have e0 : (a.v != x.net.v) = false := bne_eq_false_iff_eq.2 hav
    have HE0 := Lib.hid e0
    clear h1 hw hb hm hav ho hv e0
    go_enter Tryd.func20, Tryd.ntmps20
    go_upto_region 1 with fail
    refine wp_named fun W hW => ?_
    obtain ⟨bk, bk2, BW, sW⟩ := box2 (cs := a.cells) (cs' := x.cells) hW
    clear hW
    have v1 := cell_v bk.out
    have v2 : W.cell? ⟨w.heap.size + 1, 0, none⟩ = some (.int .i64 x.net.v) := net_at bk2.out 0 _ rfl
    have e0 := HE0.out
    go_wp2
    clear v1 v2
    go_loopw [5] (fun i wr => ∃ k : Nat, k ≤ m ∧ i = .int .i64 k ∧ Hid (∀ j, j < k → a.bitAt j = x.net.bitAt j) ∧ Hid (Below W.heap.size W wr)) (fun i _ => m - (intOf i).toNat)
    case atStart => exact ⟨0, by omega, rfl, Lib.hid (fun j hj => by omega), Lib.hid (Below.refl _ _)⟩
    case round =>
      obtain ⟨k, hk, rfl, HZ, HB⟩ := hrel
      have K0 := Lib.hid (bk.out.later HB.out bk.out.lt)
      have K1 := Lib.hid (bk2.out.later HB.out bk2.out.lt)
      have c17 : wr.cell? ⟨w.heap.size + 1, 17, none⟩ = some (.int .i64 (m : Int)) := by have := bits_at K1.out hx; rwa [HBM.out] at this
      by_cases hlt : k < m
      · have e1 : decide ((k : Int) < (m : Int)) = true := decide_eq_true (by omega)
        have e1' : decide (k < m) = true := decide_eq_true hlt
        have HA : Hid (∀ w, Calls Tryd.prog 37 #[.agg a.cells, .int .i64 (k : Nat)] w fun e w' => e = .returned (.int .i64 (a.bitAt k)) ∧ Below w.heap.size w w') := Lib.hid fun w => lbit_calls a ha k (by omega) w
        have HX : Hid (∀ w, Calls Tryd.prog 37 #[.agg x.net.vals.toArray, .int .i64 (k : Nat)] w fun e w' => e = .returned (.int .i64 (x.net.bitAt k)) ∧ Below w.heap.size w w') := Lib.hid fun w => lbit_calls x.net hx k (by omega) w
        have HLT := Lib.hid hlt
        go_upto_region 6 with fail
        by_cases hbb : a.bitAt k = x.net.bitAt k
        · have HN : Hid (∀ j, j < k + 1 → a.bitAt j = x.net.bitAt j) := Lib.hid fun j hj => by
            by_cases e : j = k
            · subst e; exact hbb
            · exact HZ.out j (by omega)
          have ex : (a.bitAt k != x.net.bitAt k) = false := bne_eq_false_iff_eq.2 hbb
          clear hbb
          refine region_later (by kernel_rfl) (by kernel_rfl) ?_
          repeat (first | go_big_quiet_skip | (go_big_quiet_want; first | (refine quiet_load 35 _ rfl w.heap.size 35 _ _ rfl K0.out Tryd.underlying35 rfl (szc ha) ?_; simp only [Act.put, List.setIfInBounds_toArray, List.set_cons_zero, List.set_cons_succ]; go_big_quiet_on) | (refine quiet_at 35 _ rfl (w.heap.size + 1) 0 x.net.vals _ rfl (net_at K1.out) Tryd.underlying35 rfl (by as_aux_lemma => exact asz hx) ?_; simp only [Act.put, List.setIfInBounds_toArray, List.set_cons_zero, List.set_cons_succ]; go_big_quiet_on) | (go_big_quiet_op; first | go_big_quiet_on | go_big_quiet_call ((go_at_call 37; first | (with_reducible exact calls_later (HA.out _)) | (with_reducible exact calls_later (HX.out _)))))))
          refine wpQuiet_nil ?_
          intro z hz
          have HBz := Lib.hid (HB.out.trans (hz.mono HB.out.size))
          clear hz
          go_wp2
          exact ⟨⟨k + 1, by omega, by go_num, HN, HBz⟩, by simp [intOf]; omega⟩
        · have HF : Hid (b = false) := Lib.hid (by rw [HR.out]; exact decide_eq_false fun h => hbb (h k HLT.out))
          have ex : (a.bitAt k != x.net.bitAt k) = true := bne_iff_ne.2 hbb
          clear hbb
          refine region_later (by kernel_rfl) (by kernel_rfl) ?_
          repeat (first | go_big_quiet_skip | (go_big_quiet_want; first | (refine quiet_load 35 _ rfl w.heap.size 35 _ _ rfl K0.out Tryd.underlying35 rfl (szc ha) ?_; simp only [Act.put, List.setIfInBounds_toArray, List.set_cons_zero, List.set_cons_succ]; go_big_quiet_on) | (refine quiet_at 35 _ rfl (w.heap.size + 1) 0 x.net.vals _ rfl (net_at K1.out) Tryd.underlying35 rfl (by as_aux_lemma => exact asz hx) ?_; simp only [Act.put, List.setIfInBounds_toArray, List.set_cons_zero, List.set_cons_succ]; go_big_quiet_on) | (go_big_quiet_op; first | go_big_quiet_on | go_big_quiet_call ((go_at_call 37; first | (with_reducible exact calls_later (HA.out _)) | (with_reducible exact calls_later (HX.out _)))))))
          refine wpQuiet_nil ?_
          intro z hz
          have HBz := Lib.hid (HB.out.trans (hz.mono HB.out.size))
          clear hz
          go_wp2
          go_ret
          exact ⟨by rw [HF.out]; rfl, (keep BW HBz.out).out⟩
      · have e1 : decide ((k : Int) < (m : Int)) = false := decide_eq_false (by omega)
        have e1' : decide (k < m) = false := decide_eq_false hlt
        have HT : Hid (b = true) := Lib.hid (by rw [HR.out]; exact decide_eq_true fun j hj => HZ.out j (by omega))
        clear hlt
        go_wp2
        go_ret
        exact ⟨by rw [HT.out]; rfl, (keep BW HB.out).out⟩
  · have HF : Hid (a.within x.net x.bits = false) := Lib.hid (within_va ho hav)
    have e0 : (a.v != x.net.v) = true := bne_iff_ne.2 hav
    have HE0 := Lib.hid e0
    rw [HF.out]
    clear hav e0
    go_enter Tryd.func20, Tryd.ntmps20
    go_upto_region 1 with fail
    refine wp_named fun W hW => ?_
    obtain ⟨bk, bk2, BW, sW⟩ := box2 (cs := a.cells) (cs' := x.cells) hW
    clear hW
    have v1 := cell_v bk.out
    have v2 : W.cell? ⟨w.heap.size + 1, 0, none⟩ = some (.int .i64 x.net.v) := net_at bk2.out 0 _ rfl
    have e0 := HE0.out
    go_wp2
    go_ret
    exact ⟨rfl, BW.out⟩
end Go.Proofs.YtpaplobjmmpliaaDoor.Ad
