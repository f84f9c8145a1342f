/- The order of two addresses: contracts of bytes.Compare, addr.Less and the reference's Less. Conditions: an address has sixteen bytes. -/
import Derived.Test.YtpaplobjmmpliaaDoorAe
import Derived.Lib.Bytealg
import Derived.Lib.BytesEntry
namespace Go.Proofs.YtpaplobjmmpliaaDoor.Ad
set_option linter.unusedVariables false
set_option linter.unusedSimpArgs false
open Go.RowKit W
def Addr.less (a c : Addr) : Bool := if a.v = c.v then decide (Lib.compareBytes a.b c.b < 0) else decide (a.v < c.v)
theorem load_bytes (l : List UInt8) (g o : Nat) (w : World) (h : ∀ i, i < l.length → w.cell? ⟨g, o + i, none⟩ = some (by8 (l.getD i 0))) :
    (Extern.Bytes.loadBytes ⟨g, o, none⟩ l.length .empty).run Tryd.prog w = .ok ⟨l.toArray⟩ w := by
  have e : ∀ l : List UInt8, Lib.bytesOf (l.map fun x => (x.toNat : Int)) = l := by
    intro l
    induction l with
    | nil => rfl
    | cons x l ih => simp only [Lib.bytesOf, List.map_cons, List.cons.injEq, Int.toNat_natCast, UInt8.ofNat_toNat, true_and]; exact ih
  have := Lib.run_loadBytesX (P := Tryd.prog) w (l.map fun x => (x.toNat : Int)) ⟨g, o, none⟩ .empty (fun j x hj => by
    have hl : j < l.length := by have := (List.getElem?_eq_some_iff.1 hj).1; simpa using this
    have ea : (⟨g, o, none⟩ : Go.Addr).add j = ⟨g, o + j, none⟩ := by unfold Go.Addr.add; split <;> simp_all
    rw [ea, h j hl]
    simp [List.getElem?_eq_getElem hl] at hj
    simp [by8, List.getElem?_eq_getElem hl, hj])
  rw [e, List.length_map] at this
  rw [this]; simp [ByteArray.empty, ByteArray.emptyWithCapacity]; rfl
theorem run_compare (l m : List UInt8) (g o c g' o' c' : Nat) (w : World) (h : ∀ i, i < l.length → w.cell? ⟨g, o + i, none⟩ = some (by8 (l.getD i 0))) (h' : ∀ i, i < m.length → w.cell? ⟨g', o' + i, none⟩ = some (by8 (m.getD i 0))) :
    (callFunc 86 #[.slice (some ⟨g, o, none⟩) l.length c, .slice (some ⟨g', o', none⟩) m.length c']).run Tryd.prog w = .ok (.value (.int .i64 (Lib.compareBytes l m))) w := by
  rw [run_callFunc_extern Tryd.func86 (by kernel_rfl) (by kernel_rfl) (by kernel_rfl) (e := Extern.BytealgCompare.compare) (by kernel_rfl)]
  have : (Extern.BytealgCompare.compare #[.slice (some ⟨g, o, none⟩) l.length c, .slice (some ⟨g', o', none⟩) m.length c']).run Tryd.prog w = .ok (.int .i64 (Lib.compareBytes l m)) w := by
    change Sem.run Tryd.prog (do pure (goInt (Extern.BytealgCompare.cmp (← Extern.Bytes.loadBytes ⟨g, o, none⟩ l.length .empty) (← Extern.Bytes.loadBytes ⟨g', o', none⟩ m.length .empty)))) w = _
    simp only [Sem.run_bind, load_bytes l g o w h, load_bytes m g' o' w h', Sem.run_pure, Result.andThen]
    rw [Lib.cmp_eq]; rfl
  rw [this]; rfl
set_option maxRecDepth 100000 in
set_option maxHeartbeats 1000000 in
theorem compare_calls (l m : List UInt8) (g o c g' o' c' : Nat) (w : World) (h : Hid (∀ i, i < l.length → w.cell? ⟨g, o + i, none⟩ = some (by8 (l.getD i 0)))) (h' : Hid (∀ i, i < m.length → w.cell? ⟨g', o' + i, none⟩ = some (by8 (m.getD i 0)))) :
    Calls Tryd.prog 63 #[.slice (some ⟨g, o, none⟩) l.length c, .slice (some ⟨g', o', none⟩) m.length c'] w fun e w' => e = .returned (.int .i64 (Lib.compareBytes l m)) ∧ w = w' := by
  have hr := run_compare l m g o c g' o' c' w h.out h'.out
  go_enter Tryd.func63, Tryd.ntmps63
  go_wp2
  go_ret
  exact ⟨rfl, rfl⟩
theorem compare_any {l m : List UInt8} {n n' c c' : Nat} {g o g' o' : Nat} {w : World} (hn : n = l.length) (hn' : n' = m.length) (h : Hid (∀ i, i < l.length → w.cell? ⟨g, o + i, none⟩ = some (by8 (l.getD i 0)))) (h' : Hid (∀ i, i < m.length → w.cell? ⟨g', o' + i, none⟩ = some (by8 (m.getD i 0)))) :
    Calls Tryd.prog 63 #[.slice (some ⟨g, o, none⟩) n c, .slice (some ⟨g', o', none⟩) n' c'] w fun e w' => e = .returned (.int .i64 (Lib.compareBytes l m)) ∧ w' = w := by
  subst hn; subst hn'; exact (compare_calls l m g o c g' o' c' w h h').mono fun _ _ h => ⟨h.1, h.2.symm⟩
set_option maxRecDepth 100000 in
set_option maxHeartbeats 1000000 in
theorem less_calls (a c : Addr) (ha : a.ok) (hc : c.ok) (w : World) : Calls Tryd.prog 45 #[.agg a.cells, .agg c.cells] w fun e w' => e = .returned (.bool (a.less c)) ∧ Below w.heap.size w w' := by
  by_cases hv : a.v = c.v
  · have e1 : (a.v != c.v) = false := bne_eq_false_iff_eq.2 hv
    have HR : Hid (a.less c = decide (Lib.compareBytes a.b c.b < 0)) := Lib.hid (if_pos hv)
    clear hv
    go_enter Tryd.func45, Tryd.ntmps45
    go_upto_region 1 with fail
    refine wp_named fun W hW => ?_
    obtain ⟨bk, bk2, BW, sW⟩ := box2 hW
    clear hW
    have c0 := cell_v bk.out
    have d0 := cell_v bk2.out
    go_wp2
    go_quiet ((go_at_call 63; exact Calls.quiet_of_same (compare_any (l := a.b) (m := c.b) ha.symm hc.symm (Lib.hid fun i hi => cell_b bk.out ha i (by rw [← ha]; exact hi)) (Lib.hid fun i hi => cell_b bk2.out hc i (by rw [← hc]; exact hi)))))
    go_wp2
    go_ret
    exact ⟨by rw [HR.out]; rfl, (Below.drewN' BW.out _)⟩
  · have e1 : (a.v != c.v) = true := bne_iff_ne.2 hv
    have HR : Hid (a.less c = decide (a.v < c.v)) := Lib.hid (if_neg hv)
    clear hv
    go_enter Tryd.func45, Tryd.ntmps45
    go_upto_region 1 with fail
    refine wp_named fun W hW => ?_
    obtain ⟨bk, bk2, BW, sW⟩ := box2 hW
    clear hW
    have c0 := cell_v bk.out
    have d0 := cell_v bk2.out
    go_wp2
    go_ret
    exact ⟨by rw [HR.out]; rfl, BW.out⟩
theorem cmp_step : ∀ (l m : List UInt8) (k : Nat), l.length = m.length → k < l.length → (∀ j, j < k → l.getD j 0 = m.getD j 0) → l.getD k 0 ≠ m.getD k 0 → decide (Lib.compareBytes l m < 0) = decide (((l.getD k 0).toNat : Int) < (m.getD k 0).toNat)
  | [], _, k, _, hk, _, _ => by simp at hk
  | x :: l, [], k, hl, _, _, _ => by simp at hl
  | x :: l, y :: m, 0, _, _, _, hn => by
    simp only [List.getD_cons_zero] at hn ⊢
    unfold Lib.compareBytes
    have hn' : x.toNat ≠ y.toNat := fun h => hn (UInt8.toNat_inj.1 h)
    by_cases h : x.toNat < y.toNat
    · rw [if_pos (UInt8.lt_iff_toNat_lt.2 h)]; simp; omega
    · rw [if_neg (fun h' => h (UInt8.lt_iff_toNat_lt.1 h')), if_pos (UInt8.lt_iff_toNat_lt.2 (by omega))]; simp; omega
  | x :: l, y :: m, k + 1, hl, hk, he, hn => by
    have h0 : x = y := he 0 (by omega)
    subst h0
    have := cmp_step l m k (by simpa using hl) (by simpa using hk) (fun j hj => he (j + 1) (by omega)) (by simpa using hn)
    unfold Lib.compareBytes
    rw [if_neg (by rw [UInt8.lt_iff_toNat_lt]; omega), if_neg (by rw [UInt8.lt_iff_toNat_lt]; omega)]
    simpa using this
theorem cmp_same : ∀ (l m : List UInt8), l.length = m.length → (∀ j, j < l.length → l.getD j 0 = m.getD j 0) → decide (Lib.compareBytes l m < 0) = false
  | [], [], _, _ => rfl
  | x :: l, y :: m, hl, he => by
    have h0 : x = y := he 0 (by simp)
    subst h0
    have := cmp_same l m (by simpa using hl) (fun j hj => he (j + 1) (by simpa using hj))
    unfold Lib.compareBytes
    rw [if_neg (by rw [UInt8.lt_iff_toNat_lt]; omega), if_neg (by rw [UInt8.lt_iff_toNat_lt]; omega)]
    exact this
set_option maxRecDepth 100000 in
set_option maxHeartbeats 1000000 in
theorem rless_calls (a c : Addr) (ha : a.ok) (hc : c.ok) (w : World) : Calls Tryd.prog 51 #[.agg a.cells, .agg c.cells] w fun e w' => e = .returned (.bool (a.less c)) ∧ Below w.heap.size w w' := by
  by_cases hv : a.v = c.v
  · have e1 : (a.v != c.v) = false := bne_eq_false_iff_eq.2 hv
    have HR : Hid (a.less c = decide (Lib.compareBytes a.b c.b < 0)) := Lib.hid (if_pos hv)
    clear hv
    go_enter Tryd.func51, Tryd.ntmps51
    go_upto_region 1 with fail
    refine wp_named fun W hW => ?_
    obtain ⟨bk, bk2, BW, sW⟩ := box2 hW
    clear hW
    have c0 := cell_v bk.out
    have d0 := cell_v bk2.out
    have ca : ∀ k : Nat, k < 16 → W.cell? ⟨w.heap.size, 1 + k, none⟩ = some (.int .u8 (a.b.getD k 0).toNat) := fun k hk => cell_b bk.out ha k hk
    have cc : ∀ k : Nat, k < 16 → W.cell? ⟨w.heap.size + 1, 1 + k, none⟩ = some (.int .u8 (c.b.getD k 0).toNat) := fun k hk => cell_b bk2.out hc k hk
    go_wp2
    go_loopw [5] (fun i wr => ∃ k : Nat, k ≤ 16 ∧ (∀ j, j < k → a.b.getD j 0 = c.b.getD j 0) ∧ i = .int .i64 k ∧ ∃ n, wr = W.drewN n) (fun i _ => 16 - (intOf i).toNat)
    case atStart => exact ⟨0, by omega, fun j hj => by omega, rfl, 0, rfl⟩
    case round =>
      obtain ⟨k, hk, hz, rfl, n, rfl⟩ := hrel
      have HZ := Lib.hid hz
      clear hz
      by_cases hlt : k < 16
      · have h1 := ca k hlt
        have h2 := cc k hlt
        have i1 : (0 : Int) ≤ (k : Int) := Int.natCast_nonneg _
        have i2 : (k : Int) < 16 := by omega
        clear ca cc
        by_cases hx : a.b.getD k 0 = c.b.getD k 0
        · rw [← hx] at h2
          have HX := Lib.hid hx
          clear hx
          obtain ⟨z, hz'⟩ : ∃ z : Int, ((a.b.getD k 0).toNat : Int) = z := ⟨_, rfl⟩
          rw [hz'] at h1 h2
          clear hz'
          have e2 : (z != z) = false := bne_self_eq_false z
          go_wp2
          go_quiet (fail)
          go_wp2
          go_roundw
          case rel => exact ⟨k + 1, by omega, fun j hj => by rcases Nat.lt_or_ge j k with h | h; exact HZ.out j h; rw [show j = k by omega]; exact HX.out, by go_num, _, rfl⟩
          case measure => simp [intOf]; omega
        · obtain ⟨z, hz'⟩ : ∃ z : Int, ((a.b.getD k 0).toNat : Int) = z := ⟨_, rfl⟩
          obtain ⟨y, hy'⟩ : ∃ y : Int, ((c.b.getD k 0).toNat : Int) = y := ⟨_, rfl⟩
          have HS : Hid (decide (Lib.compareBytes a.b c.b < 0) = decide (z < y)) := Lib.hid (by rw [← hz', ← hy']; exact cmp_step a.b c.b k (ha.trans hc.symm) (by rw [ha]; exact hlt) HZ.out hx)
          have hn : (z != y) = true := by
            rw [bne_iff_ne]; intro h; rw [← hz', ← hy'] at h; exact hx (UInt8.toNat_inj.1 (by omega))
          rw [hz'] at h1
          rw [hy'] at h2
          clear hx hz' hy'
          go_wp2
          go_quiet (fail)
          go_wp2
          go_quiet (fail)
          go_wp2
          go_ret
          exact ⟨by rw [HR.out, HS.out]; rfl, Below.drewN' (Below.drewN' (Below.drewN' BW.out _) _) _⟩
      · have HS : Hid (decide (Lib.compareBytes a.b c.b < 0) = false) := Lib.hid (cmp_same a.b c.b (ha.trans hc.symm) fun j hj => HZ.out j (by rw [ha] at hj; omega))
        clear ca cc
        go_wp2
        go_ret
        exact ⟨by rw [HR.out, HS.out]; rfl, Below.drewN' BW.out _⟩
  · have e1 : (a.v != c.v) = true := bne_iff_ne.2 hv
    have HR : Hid (a.less c = decide (a.v < c.v)) := Lib.hid (if_neg hv)
    clear hv
    go_enter Tryd.func51, Tryd.ntmps51
    go_upto_region 1 with fail
    refine wp_named fun W hW => ?_
    obtain ⟨bk, bk2, BW, sW⟩ := box2 hW
    clear hW
    have c0 := cell_v bk.out
    have d0 := cell_v bk2.out
    go_wp2
    go_ret
    exact ⟨by rw [HR.out]; rfl, BW.out⟩
end Go.Proofs.YtpaplobjmmpliaaDoor.Ad
