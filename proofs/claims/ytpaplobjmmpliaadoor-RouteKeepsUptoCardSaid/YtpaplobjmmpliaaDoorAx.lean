/- Contracts of the leaf functions of package addr and of its reference. Conditions: an address has sixteen bytes. -/
import Derived.Test.YtpaplobjmmpliaaDoorAw
namespace Go.Proofs.YtpaplobjmmpliaaDoor.Ad
set_option linter.unusedVariables false
set_option linter.unusedSimpArgs false
open Go.RowKit W
theorem box1 {w W : World} {t : TypeId} {cs : Array Value} (h : W = w.alloc (.cells cs t)) : Hid (Blk W w.heap.size t cs) ∧ Hid (Below w.heap.size w W) ∧ Hid (W.heap.size = w.heap.size + 1) := by
  subst h; exact ⟨Lib.hid (Blk.new _ _ _), Lib.hid ((Below.refl _ _).alloc (Nat.le_refl _) _), Lib.hid (by simp)⟩
theorem box2 {w W : World} {t t' : TypeId} {cs cs' : Array Value} (h : W = (w.alloc (.cells cs t)).alloc (.cells cs' t')) : Hid (Blk W w.heap.size t cs) ∧ Hid (Blk W (w.heap.size + 1) t' cs') ∧ Hid (Below w.heap.size w W) ∧ Hid (W.heap.size = w.heap.size + 2) := by
  subst h; exact ⟨Lib.hid ((Blk.new _ _ _).alloc _), Lib.hid (by have := Blk.new (w.alloc (.cells cs t)) t' cs'; simpa using this), Lib.hid (((Below.refl _ _).alloc (Nat.le_refl _) _).alloc (by simp) _), Lib.hid (by simp)⟩
theorem csize {a : Addr} (h : a.ok) : a.cells.size = 17 := by
  unfold Addr.ok at h; simp [Addr.cells, h]
theorem sz24 : (Tryd.prog.info? 35).map (·.size) = some 17 := by kernel_rfl
theorem szc {a : Addr} (h : a.ok) : (Tryd.prog.info? 35).map (·.size) = some a.cells.size := by rw [csize h]; exact sz24
theorem one_cells (a : Addr) : a.cells.all (·.oneCell') = true := by
  simp [Addr.cells, by8, Value.oneCell']
/-- What a later world keeps. -/
theorem keep {w W w' : World} (h : Hid (Below w.heap.size w W)) (hb : Below W.heap.size W w') : Hid (Below w.heap.size w w') := Lib.hid (h.out.trans (hb.mono h.out.size))
set_option maxRecDepth 100000 in
set_option maxHeartbeats 1000000 in
theorem valid_calls (a : Addr) (hb : a.ok) (w : World) : Calls Tryd.prog 27 #[.agg a.cells] w fun e w' => e = .returned (.bool a.valid) ∧ Below w.heap.size w w' := by
  have HV : Hid (a.valid = decide (0 < a.nb)) := Lib.hid rfl
  go_enter Tryd.func27, Tryd.ntmps27
  go_upto_region 1 with fail
  refine wp_named fun W hW => ?_
  obtain ⟨bk, BW, sW⟩ := box1 hW
  clear hW
  go_wp2_with (first | (refine wpList_load_blk rfl 35 _ rfl w.heap.size 35 _ _ rfl bk.out Tryd.underlying35 rfl (by as_aux_lemma => exact szc ‹_›) ?_) | (go_at_call 49; refine (bits_calls a hb _).mono ?_; rintro e w' ⟨rfl, hB⟩))
  go_ret
  exact ⟨by rw [HV.out]; rfl, (keep BW hB).out⟩
set_option maxRecDepth 100000 in
set_option maxHeartbeats 1000000 in
theorem rvalid_calls (a : Addr) (hb : a.ok) (w : World) : Calls Tryd.prog 29 #[.agg a.cells] w fun e w' => e = .returned (.bool a.valid) ∧ Below w.heap.size w w' := by
  by_cases h6 : a.v = 6
  · have e6 : (a.v == 6) = true := beq_iff_eq.2 h6
    have HR : Hid (a.valid = true) := Lib.hid (by unfold Addr.valid; rw [Addr.bits_six h6]; rfl)
    clear h6
    go_enter Tryd.func29, Tryd.ntmps29
    go_upto_region 1 with fail
    refine wp_named fun W hW => ?_
    obtain ⟨bk, BW, sW⟩ := box1 hW
    clear hW
    have b0 := cell_v bk.out
    go_wp2
    go_ret
    exact ⟨by rw [HR.out]; rfl, BW.out⟩
  · have e6 : (a.v == 6) = false := beq_eq_false_iff_ne.2 h6
    have hex : Hid (∀ k, k < 12 → a.b.getD (4 + k) 0 ≠ 0 → a.valid = false) := Lib.hid fun k hk hn => by unfold Addr.valid; rw [Addr.bits_hole hb h6 k hk hn]; rfl
    have hall : Hid ((∀ k, k < 12 → a.b.getD (4 + k) 0 = 0) → a.valid = (a.v == 4)) := Lib.hid fun h => Addr.bits_full hb h6 h
    clear h6
    go_enter Tryd.func29, Tryd.ntmps29
    go_upto_region 1 with fail
    refine wp_named fun W hW => ?_
    obtain ⟨bk, BW, sW⟩ := box1 hW
    clear hW
    have b0 := cell_v bk.out
    have hc : ∀ k : Nat, 4 ≤ k → k < 16 → W.cell? ⟨w.heap.size, 1 + k, none⟩ = some (.int .u8 (a.b.getD k 0).toNat) := fun k _ hk => cell_b bk.out hb k hk
    go_wp2
    go_loop [3] (fun i => ∃ k : Nat, 4 ≤ k ∧ k ≤ 16 ∧ (∀ j, 4 ≤ j → j < k → a.b.getD j 0 = 0) ∧ i = .int .i64 k) (fun i => 16 - (intOf i).toNat)
    case atStart => exact ⟨4, by omega, by omega, fun j hj => by omega, rfl⟩
    case round =>
      obtain ⟨k, hk4, hk, hz, rfl⟩ := hrel
      have HZ := Lib.hid hz
      clear hz
      by_cases hlt : k < 16
      · by_cases hx : a.b.getD k 0 = 0
        · have hck : W.cell? ⟨w.heap.size, 1 + k, none⟩ = some (.int .u8 0) := by rw [hc k hk4 hlt, hx]; rfl
          have HX := Lib.hid hx
          clear hc hx
          go_wp2
          go_round
          case rel => exact ⟨k + 1, by omega, by omega, fun j h4 hj => by rcases Nat.lt_or_ge j k with h | h; exact HZ.out j h4 h; rw [show j = k by omega]; exact HX.out, by go_num⟩
          case measure => simp [intOf]; omega
        · obtain ⟨z, hz'⟩ : ∃ z : Int, ((a.b.getD k 0).toNat : Int) = z := ⟨_, rfl⟩
          have hck := hc k hk4 hlt
          have hn : (z != 0) = true := by
            rw [bne_iff_ne]; intro h; rw [← hz'] at h; exact hx (UInt8.toNat_inj.1 (by simpa using h))
          rw [hz'] at hck
          have HR : Hid (a.valid = false) := Lib.hid (hex.out (k - 4) (by omega) (by rwa [show 4 + (k - 4) = k by omega]))
          clear hc hx hz'
          go_wp2
          go_ret
          exact ⟨by rw [HR.out]; rfl, BW.out⟩
      · have HR : Hid (a.valid = (a.v == 4)) := Lib.hid (hall.out fun j hj => HZ.out (4 + j) (by omega) (by omega))
        clear hc
        go_wp2
        go_ret
        exact ⟨by rw [HR.out]; rfl, BW.out⟩
def Addr.width (a : Addr) : Int := if a.v = 4 then 32 else 128
set_option maxRecDepth 100000 in
set_option maxHeartbeats 1000000 in
theorem rbits_calls (a : Addr) (hb : a.ok) (w : World) : Calls Tryd.prog 47 #[.agg a.cells] w fun e w' => e = .returned (.int .i64 a.width) ∧ Below w.heap.size w w' := by
  by_cases h : a.v = 4
  · have e4 : (a.v == 4) = true := beq_iff_eq.2 h
    have HR : Hid (a.width = 32) := Lib.hid (if_pos h)
    clear h
    go_enter Tryd.func47, Tryd.ntmps47
    go_upto_region 1 with fail
    refine wp_named fun W hW => ?_
    obtain ⟨bk, BW, sW⟩ := box1 hW
    clear hW
    have b0 := cell_v bk.out
    go_wp2
    go_ret
    exact ⟨by rw [HR.out]; rfl, BW.out⟩
  · have e4 : (a.v == 4) = false := beq_eq_false_iff_ne.2 h
    have HR : Hid (a.width = 128) := Lib.hid (if_neg h)
    clear h
    go_enter Tryd.func47, Tryd.ntmps47
    go_upto_region 1 with fail
    refine wp_named fun W hW => ?_
    obtain ⟨bk, BW, sW⟩ := box1 hW
    clear hW
    have b0 := cell_v bk.out
    go_wp2
    go_ret
    exact ⟨by rw [HR.out]; rfl, BW.out⟩
def Addr.bitAt (a : Addr) (n : Nat) : Int := Go.bits .and .u8 (((a.b.getD (n / 8) 0).toNat : Int) / 2 ^ (7 - n % 8)) 1
set_option maxRecDepth 100000 in
set_option maxHeartbeats 1000000 in
theorem rbit_calls (a : Addr) (hb : a.ok) (n : Nat) (hn : n < 128) (w : World) : Calls Tryd.prog 50 #[.agg a.cells, .int .i64 n] w fun e w' => e = .returned (.int .u8 (a.bitAt n)) ∧ Below w.heap.size w w' := by
  go_enter Tryd.func50, Tryd.ntmps50
  go_upto_region 1 with fail
  refine wp_named fun W hW => ?_
  obtain ⟨bk, BW, sW⟩ := box1 hW
  clear hW
  have hc : W.cell? ⟨w.heap.size, 1 + n / 8, none⟩ = some (.int .u8 (a.b.getD (n / 8) 0).toNat) := cell_b bk.out hb _ (by omega)
  obtain ⟨x, hx⟩ : ∃ x, (a.b.getD (n / 8) 0) = x := ⟨_, rfl⟩
  rw [hx] at hc
  have HX := Lib.hid hx
  clear hx
  have hm : n % 8 < 8 := Nat.mod_lt _ (by omega)
  have HR : Hid (a.bitAt n = Go.bits .and .u8 ((x.toNat : Int) / 2 ^ (7 - n % 8)) 1) := Lib.hid (by unfold Addr.bitAt; rw [HX.out])
  go_wp2
  go_ret
  exact ⟨by rw [HR.out]; rfl, BW.out⟩
end Go.Proofs.YtpaplobjmmpliaaDoor.Ad
