/- Contracts of the functions of package addr and of its reference. Conditions: an address has sixteen bytes. -/
import Derived.Test.YtpaplobjmmpliaaDoorProg
import Derived.Test.YtpaplobjmmpliaaDoorBa
import Derived.Test.YtpaplobjmmpliaaDoorAd
namespace Go.Proofs.YtpaplobjmmpliaaDoor.Ad
set_option linter.unusedVariables false
set_option linter.unusedSimpArgs false
open Go.RowKit W
def by8 (x : UInt8) : Value := .int .u8 x.toNat
def Addr.cells (a : Addr) : Array Value := (Value.int .i64 a.v :: a.b.map by8).toArray
def Addr.val (a : Addr) : Value := .agg a.cells
theorem len16 {l : List UInt8} (h : l.length = 16) : ∃ x0 x1 x2 x3 x4 x5 x6 x7 x8 x9 x10 x11 x12 x13 x14 x15, l = [x0, x1, x2, x3, x4, x5, x6, x7, x8, x9, x10, x11, x12, x13, x14, x15] := by
  match l, h with
  | [x0, x1, x2, x3, x4, x5, x6, x7, x8, x9, x10, x11, x12, x13, x14, x15], _ => exact ⟨x0, x1, x2, x3, x4, x5, x6, x7, x8, x9, x10, x11, x12, x13, x14, x15, rfl⟩
/-- The cells of an address in its block. -/
theorem cell_v {w : World} {g : Nat} {a : Addr} (h : Blk w g 35 a.cells) : w.cell? ⟨g, 0, none⟩ = some (.int .i64 a.v) := by rw [h.cell]; rfl
theorem cell_b {w : World} {g : Nat} {a : Addr} (h : Blk w g 35 a.cells) (hb : a.ok) (i : Nat) (hi : i < 16) : w.cell? ⟨g, 1 + i, none⟩ = some (.int .u8 (a.b.getD i 0).toNat) := by
  rw [h.cell]
  have : i < a.b.length := by rw [hb]; exact hi
  simp [Addr.cells, by8, Nat.add_comm 1 i, List.getElem?_eq_getElem this]
theorem fz {w : World} {g : Nat} {t : TypeId} {cs : Array Value} (h : Blk w g t cs) (i : Nat) : w.frozen? ⟨g, i, none⟩ = false := h.frozen i
set_option maxRecDepth 100000 in
set_option maxHeartbeats 2000000 in
theorem bits_calls (a : Addr) (hb : a.ok) (w : World) : Calls Tryd.prog 49 #[.agg a.cells] w fun e w' => e = .returned (.int .i64 a.nb) ∧ Below w.heap.size w w' := by
  have hbx : Hid (Blk (w.alloc (.cells a.cells 35)) w.heap.size 35 a.cells) := Lib.hid (Blk.new _ _ _)
  have hB : Hid (Below w.heap.size w (w.alloc (.cells a.cells 35))) := Lib.hid ((Below.refl _ _).alloc (Nat.le_refl _) _)
  have hv : ∀ h, a.cells[0]'h = .int .i64 a.v := fun h => rfl
  by_cases h4 : a.v = 4
  · have e4 : (a.v == 4) = true := beq_iff_eq.2 h4
    have hall : Hid ((∀ k, k < 12 → a.b.getD (4 + k) 0 = 0) → a.nb = 32) := Lib.hid (by
      intro h; unfold Addr.nb; rw [if_pos h4, if_pos]; rw [List.all_eq_true]; intro x hx
      obtain ⟨k, hk, rfl⟩ := List.mem_iff_getElem.1 hx
      have := h k (by simp at hk; unfold Addr.ok at hb; omega)
      simp at hk ⊢
      rwa [List.getD_eq_getElem?_getD, List.getElem?_eq_getElem (by omega)] at this)
    have hex : Hid (∀ k, k < 12 → a.b.getD (4 + k) 0 ≠ 0 → a.nb = 0) := Lib.hid (by
      intro k hk hn; unfold Addr.nb; rw [if_pos h4, if_neg]; intro h
      rw [List.all_eq_true] at h
      unfold Addr.ok at hb
      refine hn ?_
      rw [List.getD_eq_getElem?_getD, List.getElem?_eq_getElem (by omega)]
      simpa using h (a.b[4 + k]'(by omega)) (List.mem_iff_getElem.2 ⟨k, by simp; omega, by simp⟩))
    clear h4
    go_enter Tryd.func49, Tryd.ntmps49
    go_upto_region 1 with fail
    refine wp_named fun W hW => ?_
    have BW : Hid (Below w.heap.size w W) := Lib.hid (by rw [hW]; exact hB.out)
    have b0 : W.cell? ⟨w.heap.size, 0, none⟩ = some (.int .i64 a.v) := cell_v (by rw [hW]; exact hbx.out)
    have hc : ∀ k : Nat, k < 12 → W.cell? ⟨w.heap.size, 5 + k, none⟩ = some (.int .u8 (a.b.getD (4 + k) 0).toNat) := fun k hk => by
      have := cell_b (w := W) (g := w.heap.size) (a := a) (by rw [hW]; exact hbx.out) hb (4 + k) (by omega)
      rwa [show 1 + (4 + k) = 5 + k by omega] at this
    clear hW hbx hB hv
    go_wp2
    go_loop [12] (fun i => ∃ k : Nat, k ≤ 12 ∧ (∀ j, j < k → a.b.getD (4 + j) 0 = 0) ∧ i = .int .i64 k) (fun i => 12 - (intOf i).toNat)
    case atStart => exact ⟨0, by omega, fun j hj => by omega, rfl⟩
    case round =>
      obtain ⟨k, hk, hz, rfl⟩ := hrel
      have HZ := Lib.hid hz
      clear hz
      by_cases hlt : k < 12
      · by_cases hx : a.b.getD (4 + k) 0 = 0
        · have hck : W.cell? ⟨w.heap.size, 5 + k, none⟩ = some (.int .u8 0) := by rw [hc k hlt, hx]; rfl
          have HX := Lib.hid hx
          clear hc hx
          go_wp2
          go_round
          case rel => exact ⟨k + 1, by omega, fun j hj => by rcases Nat.lt_or_ge j k with h | h; exact HZ.out j h; rw [show j = k by omega]; exact HX.out, by go_num⟩
          case measure => simp [intOf]; omega
        · obtain ⟨z, hz'⟩ : ∃ z : Int, ((a.b.getD (4 + k) 0).toNat : Int) = z := ⟨_, rfl⟩
          have hck := hc k hlt
          have hn : (z != 0) = true := by
            rw [bne_iff_ne]; intro h; rw [← hz'] at h; exact hx (UInt8.toNat_inj.1 (by simpa using h))
          rw [hz'] at hck
          have HR : Hid (a.nb = 0) := Lib.hid (hex.out k hlt hx)
          clear hc hx hz'
          go_wp2
          go_ret
          exact ⟨by rw [HR.out]; rfl, BW.out⟩
      · have HR : Hid (a.nb = 32) := Lib.hid (hall.out fun j hj => HZ.out j (by omega))
        go_wp2
        go_ret
        exact ⟨by rw [HR.out]; rfl, BW.out⟩
  · have e4 : (a.v == 4) = false := beq_eq_false_iff_ne.2 h4
    by_cases h6 : a.v = 6
    · have e6 : (a.v == 6) = true := beq_iff_eq.2 h6
      have HR : Hid (a.nb = 128) := Lib.hid (by unfold Addr.nb; rw [if_neg h4, if_pos h6])
      clear h4 h6
      go_enter Tryd.func49, Tryd.ntmps49
      go_upto_region 1 with fail
      refine wp_named fun W hW => ?_
      have BW : Hid (Below w.heap.size w W) := Lib.hid (by rw [hW]; exact hB.out)
      have b0 : W.cell? ⟨w.heap.size, 0, none⟩ = some (.int .i64 a.v) := cell_v (by rw [hW]; exact hbx.out)
      clear hW hbx hB hv
      go_wp2
      go_ret
      exact ⟨by rw [HR.out]; rfl, BW.out⟩
    · have e6 : (a.v == 6) = false := beq_eq_false_iff_ne.2 h6
      have HR : Hid (a.nb = 0) := Lib.hid (by unfold Addr.nb; rw [if_neg h4, if_neg h6])
      clear h4 h6
      go_enter Tryd.func49, Tryd.ntmps49
      go_upto_region 1 with fail
      refine wp_named fun W hW => ?_
      have BW : Hid (Below w.heap.size w W) := Lib.hid (by rw [hW]; exact hB.out)
      have b0 : W.cell? ⟨w.heap.size, 0, none⟩ = some (.int .i64 a.v) := cell_v (by rw [hW]; exact hbx.out)
      clear hW hbx hB hv
      go_wp2
      go_ret
      exact ⟨by rw [HR.out]; rfl, BW.out⟩
end Go.Proofs.YtpaplobjmmpliaaDoor.Ad
