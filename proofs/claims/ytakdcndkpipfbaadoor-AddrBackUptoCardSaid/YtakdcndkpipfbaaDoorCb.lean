/- Some addresses in their blocks, kept along later worlds. Conditions: none. -/
import Derived.Test.YtakdcndkpipfbaaDoorBt
import Derived.Test.YtakdcndkpipfbaaDoorBy
import Derived.Test.YtakdcndkpipfbaaDoorBw
namespace Go.Proofs.YtakdcndkpipfbaaDoor.Ad
set_option linter.unusedVariables false
set_option linter.unusedSimpArgs false
open Go.RowKit W
theorem keep_keep_dec : ∀ (k l : Fin 9) (x : Fin 256), keepB (keepB (UInt8.ofNat x.val) k.val) l.val = keepB (UInt8.ofNat x.val) (min k.val l.val) := by decide +kernel
theorem keep_keep (x : UInt8) {k l : Nat} (hk : k ≤ 8) (hl : l ≤ 8) : keepB (keepB x k) l = keepB x (min k l) := by
  have := keep_keep_dec ⟨k, by omega⟩ ⟨l, by omega⟩ ⟨x.toNat, x.toNat_lt⟩
  simpa using this
theorem keep_le (x : UInt8) (k : Nat) : (keepB x k).toNat ≤ x.toNat := by rw [keepB_nat]; exact Nat.div_mul_le_self _ _
theorem maskE_or (a : Addr) (n : Int) : a.maskE n = 0 ∨ a.maskE n = 1 := by
  unfold Addr.maskE; split; exact .inr rfl; split; exact .inr rfl; split; exact .inr rfl; exact .inl rfl
theorem mask_no {a : Addr} {n : Int} (h : a.maskE n ≠ 0) : a.mask n = zeroAd := by unfold Addr.mask; rw [if_neg h]
theorem maskE_zero {a : Addr} {n : Int} : a.maskE n = 0 ↔ a.nb ≠ 0 ∧ 0 ≤ n ∧ n ≤ a.nb := by
  unfold Addr.maskE
  constructor
  · intro h
    split at h; cases h
    split at h; cases h
    split at h; cases h
    omega
  · rintro ⟨h1, h2, h3⟩
    rw [if_neg h1, if_neg (by omega), if_neg (by omega)]
theorem mask_yes {a : Addr} {n : Int} (h : a.maskE n = 0) : a.mask n = ⟨a.v, maskB a.b n.toNat⟩ := by unfold Addr.mask; rw [if_pos h]
/-- A mask has as many bits as its address. -/
theorem mask_nb {a : Addr} (ha : a.ok) {n : Int} (h : a.maskE n = 0) : (a.mask n).nb = a.nb := by
  rw [mask_yes h]
  obtain ⟨h1, h2, h3⟩ := maskE_zero.1 h
  by_cases h4 : a.v = 4
  · have hv : a.valid = true := by unfold Addr.valid; rw [decide_eq_true_iff]; unfold Addr.nb at h1 ⊢; rw [if_pos h4] at h1 ⊢; split at h1; rw [if_pos (by assumption)]; decide; exact absurd rfl h1
    have hn := (nb_four hv h4).1
    have hz : ((maskB a.b n.toNat).drop 4).all (· == 0) = true := by
      rw [List.all_eq_true]; intro x hx
      obtain ⟨k, hk, rfl⟩ := List.mem_iff_getElem.1 hx
      have hl : (maskB a.b n.toNat).length = 16 := by rw [mask_len]; exact ha
      simp [hl] at hk
      have h0 := mask_get a.b n.toNat (4 + k) (by omega) ha
      rw [tail_zero ha hv h4 (4 + k) (by omega) (by omega)] at h0
      have : keepB 0 (min 8 (n.toNat - 8 * (4 + k))) = 0 := UInt8.toNat.inj (by have := keep_le 0 (min 8 (n.toNat - 8 * (4 + k))); simpa using this)
      rw [this, List.getD_eq_getElem?_getD, List.getElem?_eq_getElem (by omega)] at h0
      simpa using h0
    rw [hn]
    unfold Addr.nb
    rw [if_pos h4, if_pos hz]
  · unfold Addr.nb
    rw [if_neg h4, if_neg h4]
theorem maskE_mask {a : Addr} (ha : a.ok) {n : Int} (h : a.maskE n = 0) (m : Int) : (a.mask n).maskE m = a.maskE m := by
  unfold Addr.maskE; rw [mask_nb ha h]
theorem mask_mask {a : Addr} (ha : a.ok) {n m : Int} (h : a.maskE n = 0) (hm : a.maskE m = 0) : (a.mask n).mask m = a.mask (min n m) ∧ a.maskE (min n m) = 0 := by
  have hx := (maskE_mask ha h m).trans hm
  obtain ⟨h1, h2, h3⟩ := maskE_zero.1 h
  obtain ⟨_, h4, h5⟩ := maskE_zero.1 hm
  have hk : a.maskE (min n m) = 0 := maskE_zero.2 ⟨h1, by omega, by omega⟩
  refine ⟨?_, hk⟩
  have hl : (maskB a.b n.toNat).length = 16 := by rw [mask_len]; exact ha
  have e : maskB (maskB a.b n.toNat) m.toNat = maskB a.b (min n m).toNat := ext16 (by rw [mask_len]; exact hl) (by rw [mask_len]; exact ha) fun i hi => by
    rw [mask_get _ _ _ hi hl, mask_get _ _ _ hi ha, mask_get _ _ _ hi ha, keep_keep _ (by omega) (by omega)]
    congr 1
    omega
  rw [mask_yes hx, mask_yes h, mask_yes hk]
  show Addr.mk a.v _ = _
  rw [e]
theorem cmp_not : ∀ l m : List UInt8, l.length = m.length → (∀ i, i < l.length → (m.getD i 0).toNat ≤ (l.getD i 0).toNat) → ¬ Lib.compareBytes l m < 0
  | [], [], _, _ => by decide
  | [], _ :: _, h, _ => by simp at h
  | _ :: _, [], h, _ => by simp at h
  | x :: l, y :: m, h, hle => by
    have h0 := hle 0 (by simp)
    simp at h0
    have ih := cmp_not l m (by simpa using h) (fun i hi => by have := hle (i + 1) (by simp; omega); simpa using this)
    unfold Lib.compareBytes
    rcases u8_three x y with ⟨h1, h3⟩ | rfl | ⟨h1, h3⟩
    · have := UInt8.lt_iff_toNat_lt.1 h1; have h0' : y.toNat ≤ x.toNat := by first | exact h0 | exact UInt8.le_iff_toNat_le.1 h0
      omega
    · rw [if_neg (u8_self x), if_neg (u8_self x)]; exact ih
    · rw [if_neg h3, if_pos h1]; decide
theorem mask_below {a : Addr} (ha : a.ok) {n : Int} (h : a.maskE n = 0) : a.less (a.mask n) = false := by
  rw [mask_yes h]
  unfold Addr.less
  rw [if_pos rfl]
  refine decide_eq_false (cmp_not _ _ (by rw [mask_len]) fun i hi => ?_)
  unfold Addr.ok at ha
  show ((maskB a.b n.toNat).getD i 0).toNat ≤ _
  rw [mask_get _ _ _ (by omega) ha]
  exact keep_le _ _
theorem within_eq (a b : Addr) (n : Int) : a.within b n = decide (a.maskE n = 0 ∧ b.maskE n = 0 ∧ a.mask n = b.mask n) := rfl
theorem within_swap (a b : Addr) (n : Int) : b.within a n = a.within b n := by
  rw [within_eq, within_eq, Bool.eq_iff_iff, decide_eq_true_iff, decide_eq_true_iff]
  exact ⟨fun ⟨h1, h2, h3⟩ => ⟨h2, h1, h3.symm⟩, fun ⟨h1, h2, h3⟩ => ⟨h2, h1, h3.symm⟩⟩
theorem within_mask {a : Addr} (ha : a.ok) {n : Int} (h : a.maskE n = 0) : a.within (a.mask n) n = true := by
  rw [within_eq, decide_eq_true_iff]
  refine ⟨h, (maskE_mask ha h n).trans h, ?_⟩
  rw [(mask_mask ha h h).1, Int.min_self]
/-- In a net, and so in every wider one. -/
theorem within_wider {a b : Addr} (ha : a.ok) (hb : b.ok) {n m : Int} (h : a.within b n = true) (hm : a.maskE m = 0) (hmn : m ≤ n) : a.within b m = true := by
  rw [within_eq, decide_eq_true_iff] at h ⊢
  obtain ⟨h1, h2, h3⟩ := h
  have hnb : b.nb = a.nb := by rw [← mask_nb hb h2, ← mask_nb ha h1, h3]
  have hbm : b.maskE m = 0 := by
    have := maskE_zero.1 hm
    exact maskE_zero.2 ⟨by omega, by omega, by omega⟩
  refine ⟨hm, hbm, ?_⟩
  have e1 := (mask_mask ha h1 hm).1
  have e2 := (mask_mask hb h2 hbm).1
  rw [show min n m = m by omega] at e1 e2
  rw [← e1, ← e2, h3]
/-- How many bits there are, by the version. -/
theorem most_of {a : Addr} {n : Int} (h : a.maskE n = 0) : a.nb = if a.v = 4 then 32 else 128 := by
  have h1 := (maskE_zero.1 h).1
  unfold Addr.nb at h1 ⊢
  by_cases h4 : a.v = 4
  · rw [if_pos h4] at h1 ⊢
    rw [if_pos h4]
    split at h1
    · rw [if_pos (by assumption)]
    · exact absurd rfl h1
  · rw [if_neg h4] at h1 ⊢
    rw [if_neg h4]
    split at h1
    · rw [if_pos (by assumption)]
    · exact absurd rfl h1
/-- What the law's own world holds: addresses in their blocks. -/
structure Bl (w : World) (l : List (Nat × Addr)) (W : World) : Prop where
  below : Below w.heap.size w W
  gl : Gl W
  all : ∀ p ∈ l, Blk W p.1 24 p.2.cells
theorem Bl.later {w W W' : World} {l : List (Nat × Addr)} (h : Bl w l W) (hb : Below W.heap.size W W') : Bl w l W' :=
  ⟨h.below.trans (hb.mono h.below.size), h.gl.later hb, fun p hp => (h.all p hp).later hb (h.all p hp).lt⟩
theorem Bl.add {w W : World} {l : List (Nat × Addr)} {g : Nat} {a : Addr} (h : Bl w l W) (hb : Blk W g 24 a.cells) : Bl w (l ++ [(g, a)]) W :=
  ⟨h.below, h.gl, fun p hp => by rcases List.mem_append.1 hp with hp | hp; exact h.all p hp; obtain rfl := List.mem_singleton.1 hp; exact hb⟩
theorem Bl.nth {w W : World} {l : List (Nat × Addr)} (h : Bl w l W) (i : Nat) {p : Nat × Addr} (hp : l[i]? = some p) : Blk W p.1 24 p.2.cells := h.all p (List.mem_of_getElem? hp)
theorem Bl.two {w W : World} {a b : Addr} (h : W = (w.alloc (.cells a.cells 24)).alloc (.cells b.cells 24)) (hg : Gl w) : Bl w [(w.heap.size, a), (w.heap.size + 1, b)] W := by
  obtain ⟨k1, k2, bw, _⟩ := box2 h
  refine ⟨bw.out, hg.later bw.out, fun p hp => ?_⟩
  simp only [List.mem_cons, List.not_mem_nil, or_false] at hp
  rcases hp with rfl | rfl
  · exact k1.out
  · exact k2.out
theorem Bl.one {w W : World} {a : Addr} (h : W = w.alloc (.cells a.cells 24)) (hg : Gl w) : Bl w [(w.heap.size, a)] W := by
  obtain ⟨k1, bw, _⟩ := box1 h
  refine ⟨bw.out, hg.later bw.out, fun p hp => ?_⟩
  obtain rfl := List.mem_singleton.1 hp
  exact k1.out
set_option maxRecDepth 100000 in
set_option maxHeartbeats 4000000 in
theorem nets_no (a b x y : Addr) (n m f0 : Int) (ha : a.ok) (hb : b.ok) (hx : x.ok) (hy : y.ok) (q0 : ∀ w, (binOp .eql 24 (.agg x.cells) (.agg #[.int .i64 0, .int .u8 0, .int .u8 0, .int .u8 0, .int .u8 0, .int .u8 0, .int .u8 0, .int .u8 0, .int .u8 0, .int .u8 0, .int .u8 0, .int .u8 0, .int .u8 0, .int .u8 0, .int .u8 0, .int .u8 0, .int .u8 0])).run Tryd.prog w = .ok (.bool true) w) (HX : Hid (∀ w, Calls Tryd.prog 10 #[.agg a.cells, .int .i64 n] w fun e w' => e = .returned (.tuple #[.agg x.cells, .int .i64 1]) ∧ Below w.heap.size w w')) (HY : Hid (∀ w, Calls Tryd.prog 10 #[.agg b.cells, .int .i64 n] w fun e w' => e = .returned (.tuple #[.agg y.cells, .int .i64 f0]) ∧ Below w.heap.size w w')) (HIN : Hid (∀ w, Calls Tryd.prog 20 #[.agg a.cells, .agg b.cells, .int .i64 n] w fun e w' => e = .returned (.bool false) ∧ Below w.heap.size w w')) (HIN2 : Hid (∀ w, Calls Tryd.prog 20 #[.agg b.cells, .agg a.cells, .int .i64 n] w fun e w' => e = .returned (.bool false) ∧ Below w.heap.size w w')) (w : World) (hg : Gl w) : Calls Tryd.prog 7 #[.agg a.cells, .agg b.cells, .int .i64 n, .int .i64 m] w fun e w' => e = .returned (.bool true) ∧ Below w.heap.size w w' := by
  have HG := Lib.hid hg
  have z0 := zero_ok
  clear hg
  go_enter Tryd.func7, Tryd.ntmps7
  go_upto_region 1 with fail
  refine wp_named fun W hW => ?_
  have HA := Lib.hid (Bl.two hW HG.out)
  clear hW
  go_upto_region 4 with (go_at_call 9; (first | (with_reducible refine (alive_calls _ HA.out.gl).mono ?_)); rintro e W9 ⟨rfl, hB9⟩; have HA := Lib.hid (HA.out.later hB9); clear hB9)
  go_upto_region 5 with (first | (refine wpList_load_blk rfl 24 _ rfl w.heap.size 24 _ _ rfl (HA.out.nth 0 rfl) Tryd.underlying24 rfl (by as_aux_lemma => exact szc ha) ?_) | (go_at_call 10; refine (HX.out _).mono ?_; rintro e W3 ⟨rfl, hB5⟩) | (refine wpList_store_blk rfl 24 _ _ rfl W3.heap.size 24 zeroAd.cells x.cells rfl rfl (Blk.new _ _ _) (by first | rfl | rw [csize hx, csize zero_ok]) (szc hx) (one_cells _) ?_; intro W4 P4))
  obtain ⟨B5, b5, s5, t5⟩ := call_store hB5 P4
  have HA := Lib.hid ((HA.out.later B5.out).add b5.out)
  obtain ⟨G1, hG1⟩ : ∃ g, W3.heap.size = g := ⟨_, rfl⟩
  rw [hG1] at HA ⊢
  simp only [List.cons_append, List.nil_append] at HA
  clear hB5 P4 B5 b5 s5 t5 hG1
  go_upto_region 6 with (first | (refine wpList_load_blk rfl 24 _ rfl (w.heap.size + 1) 24 _ _ rfl (HA.out.nth 1 rfl) Tryd.underlying24 rfl (by as_aux_lemma => exact szc hb) ?_) | (go_at_call 10; refine (HY.out _).mono ?_; rintro e W5 ⟨rfl, hB6⟩) | (refine wpList_store_blk rfl 24 _ _ rfl W5.heap.size 24 zeroAd.cells y.cells rfl rfl (Blk.new _ _ _) (by first | rfl | rw [csize hy, csize zero_ok]) (szc hy) (one_cells _) ?_; intro W6 P6))
  obtain ⟨B6, b6, s6, t6⟩ := call_store hB6 P6
  have HA := Lib.hid ((HA.out.later B6.out).add b6.out)
  obtain ⟨G2, hG2⟩ : ∃ g, W5.heap.size = g := ⟨_, rfl⟩
  rw [hG2] at HA ⊢
  simp only [List.cons_append, List.nil_append] at HA
  clear hB6 P6 B6 b6 s6 t6 hG2
  go_wp2_with (first | (refine wpList_load_blk rfl 24 _ rfl w.heap.size 24 _ _ rfl (HA.out.nth 0 rfl) Tryd.underlying24 rfl (by as_aux_lemma => exact szc ha) ?_) | (refine wpList_load_blk rfl 24 _ rfl (w.heap.size + 1) 24 _ _ rfl (HA.out.nth 1 rfl) Tryd.underlying24 rfl (by as_aux_lemma => exact szc hb) ?_) | (refine wpList_load_blk rfl 24 _ rfl G1 24 _ _ rfl (HA.out.nth 2 rfl) Tryd.underlying24 rfl (by as_aux_lemma => exact szc hx) ?_) | (refine wpList_load_blk rfl 24 _ rfl G2 24 _ _ rfl (HA.out.nth 3 rfl) Tryd.underlying24 rfl (by as_aux_lemma => exact szc hy) ?_) | (go_at_call 20; (first | (with_reducible refine (HIN.out _).mono ?_) | (with_reducible refine (HIN2.out _).mono ?_)); rintro e W9 ⟨rfl, hB9⟩; have HA := Lib.hid (HA.out.later hB9); clear hB9))
  go_ret
  exact ⟨rfl, HA.out.below⟩
end Go.Proofs.YtakdcndkpipfbaaDoor.Ad
