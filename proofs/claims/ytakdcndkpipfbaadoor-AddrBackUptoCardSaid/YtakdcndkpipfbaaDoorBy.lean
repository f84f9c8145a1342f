/- Nets of so many bits, told by the bytes; the kinds, told by nets: plain Lean, no program. -/
import Derived.Test.YtakdcndkpipfbaaDoorAo
import Derived.Test.YtakdcndkpipfbaaDoorBp
namespace Go.Proofs.YtakdcndkpipfbaaDoor.Ad
set_option linter.unusedVariables false
set_option linter.unusedSimpArgs false
theorem keepB_full (x : UInt8) : keepB x 8 = x := UInt8.toNat.inj (by rw [keepB_nat]; simp)
theorem valid_v {a : Addr} (h : a.valid = true) : a.v = 4 ∨ a.v = 6 := by
  have := nb_valid h
  unfold Addr.nb at this
  by_cases h4 : a.v = 4
  · exact .inl h4
  · rw [if_neg h4] at this
    by_cases h6 : a.v = 6
    · exact .inr h6
    · rw [if_neg h6] at this; exact absurd rfl this
theorem nb_four {a : Addr} (h : a.valid = true) (h4 : a.v = 4) : a.nb = 32 ∧ (a.b.drop 4).all (· == 0) = true := by
  have := nb_valid h
  unfold Addr.nb at this ⊢
  rw [if_pos h4] at this ⊢
  by_cases hz : (a.b.drop 4).all (· == 0) = true
  · rw [if_pos hz]; exact ⟨rfl, hz⟩
  · rw [if_neg hz] at this; exact absurd rfl this
theorem tail_zero {a : Addr} (ha : a.ok) (h : a.valid = true) (h4 : a.v = 4) (i : Nat) (h1 : 4 ≤ i) (h2 : i < 16) : a.b.getD i 0 = 0 := by
  have hz := (nb_four h h4).2
  rw [List.all_eq_true] at hz
  unfold Addr.ok at ha
  have := hz (a.b[i]'(by omega)) (List.mem_iff_getElem.2 ⟨i - 4, by simp; omega, by simp; congr 1; omega⟩)
  rw [List.getD_eq_getElem?_getD, List.getElem?_eq_getElem (by omega)]
  simpa using this
theorem maskE_in {a : Addr} (h : a.valid = true) {n : Nat} (hn : (n : Int) ≤ a.nb) : a.maskE n = 0 := by
  unfold Addr.maskE; rw [if_neg (nb_valid h), if_neg (by omega), if_neg (by omega)]
theorem mask_in {a : Addr} (h : a.valid = true) {n : Nat} (hn : (n : Int) ≤ a.nb) : a.mask n = ⟨a.v, maskB a.b n⟩ := by
  unfold Addr.mask; rw [if_pos (maskE_in h hn)]; rfl
/-- One lies in the other's net of n bits just if the kept bits of each byte are the same. -/
theorem within_iff {a c : Addr} (ha : a.ok) (hc : c.ok) (hav : a.valid = true) (hcv : c.valid = true) (hv : a.v = c.v) {n : Nat} (hn : (n : Int) ≤ a.nb) (hn2 : (n : Int) ≤ c.nb) :
    a.within c n = true ↔ ∀ i, i < 16 → keepB (a.b.getD i 0) (min 8 (n - 8 * i)) = keepB (c.b.getD i 0) (min 8 (n - 8 * i)) := by
  unfold Addr.within
  rw [decide_eq_true_iff]
  constructor
  · rintro ⟨_, _, h⟩ i hi
    rw [mask_in hav hn, mask_in hcv hn2] at h
    injection h with _ h
    rw [← mask_get _ _ _ hi ha, ← mask_get _ _ _ hi hc, h]
  · intro h
    refine ⟨maskE_in hav hn, maskE_in hcv hn2, ?_⟩
    have e : maskB a.b n = maskB c.b n := ext16 (by rw [mask_len]; exact ha) (by rw [mask_len]; exact hc) fun i hi => by rw [mask_get _ _ _ hi ha, mask_get _ _ _ hi hc]; exact h i hi
    rw [mask_in hav hn, mask_in hcv hn2, hv, e]
theorem within_other {a c : Addr} (hv : a.v ≠ c.v) (n : Int) : a.within c n = false := by
  unfold Addr.within
  rw [decide_eq_false_iff_not]
  rintro ⟨h1, h2, h3⟩
  unfold Addr.mask at h3
  rw [if_pos h1, if_pos h2] at h3
  injection h3 with h3 _
  exact hv h3
/-- Eight bits: the first byte. -/
theorem within_8 {a c : Addr} (ha : a.ok) (hc : c.ok) (hav : a.valid = true) (hcv : c.valid = true) (hv : a.v = c.v) (h1 : 8 ≤ a.nb) (h2 : 8 ≤ c.nb) : a.within c 8 = decide (a.b.getD 0 0 = c.b.getD 0 0) := by
  have := within_iff (n := 8) ha hc hav hcv hv h1 h2
  rw [Bool.eq_iff_iff, decide_eq_true_iff]
  refine this.trans ⟨fun h => ?_, fun h i hi => ?_⟩
  · have := h 0 (by omega); simpa [keepB_full] using this
  · by_cases h0 : i = 0
    · subst h0; rw [h]
    · rw [show min 8 (8 - 8 * i) = 0 by omega, keepB_zero, keepB_zero]
theorem keep4 : ∀ k : Fin 256, (keepB (UInt8.ofNat k.val) 4 = keepB 224 4 ↔ 224 ≤ k.val ∧ k.val ≤ 239) := by decide +kernel
theorem within_4 {a c : Addr} (ha : a.ok) (hc : c.ok) (hav : a.valid = true) (hcv : c.valid = true) (hv : a.v = c.v) (h1 : 4 ≤ a.nb) (h2 : 4 ≤ c.nb) (h0 : c.b.getD 0 0 = 224) : a.within c 4 = decide (224 ≤ a.first ∧ a.first ≤ 239) := by
  have := within_iff (n := 4) ha hc hav hcv hv h1 h2
  have hk := keep4 ⟨(a.b.getD 0 0).toNat, UInt8.toNat_lt _⟩
  simp only [UInt8.ofNat_toNat] at hk
  have hf : (224 ≤ a.first ∧ a.first ≤ 239) ↔ (224 ≤ (a.b.getD 0 0).toNat ∧ (a.b.getD 0 0).toNat ≤ 239) := by unfold Addr.first; omega
  rw [Bool.eq_iff_iff, decide_eq_true_iff]
  refine this.trans (Iff.trans ⟨fun h => ?_, fun h i hi => ?_⟩ (hk.trans hf.symm))
  · have := h 0 (by omega); rw [h0] at this; simpa using this
  · by_cases hi0 : i = 0
    · subst hi0; rw [h0]; exact h
    · rw [show min 8 (4 - 8 * i) = 0 by omega, keepB_zero, keepB_zero]
theorem within_32 {a c : Addr} (ha : a.ok) (hc : c.ok) (hav : a.valid = true) (hcv : c.valid = true) (h4 : a.v = 4) (hc4 : c.v = 4) : a.within c 32 = decide (a.b = c.b) := by
  have := within_iff (n := 32) ha hc hav hcv (h4.trans hc4.symm) (by rw [(nb_four hav h4).1]; decide) (by rw [(nb_four hcv hc4).1]; decide)
  rw [Bool.eq_iff_iff, decide_eq_true_iff]
  refine this.trans ⟨fun h => ext16 ha hc fun i hi => ?_, fun h i hi => by rw [h]⟩
  by_cases hi4 : i < 4
  · have := h i hi
    rwa [show min 8 (32 - 8 * i) = 8 by omega, keepB_full, keepB_full] at this
  · rw [tail_zero ha hav h4 i (by omega) hi, tail_zero hc hcv hc4 i (by omega) hi]
theorem within_128 {a c : Addr} (ha : a.ok) (hc : c.ok) (hav : a.valid = true) (hcv : c.valid = true) (h6 : a.v = 6) (hc6 : c.v = 6) : a.within c 128 = decide (a.b = c.b) := by
  have := within_iff (n := 128) ha hc hav hcv (h6.trans hc6.symm) (by rw [Addr.bits_six h6]; decide) (by rw [Addr.bits_six hc6]; decide)
  rw [Bool.eq_iff_iff, decide_eq_true_iff]
  refine this.trans ⟨fun h => ext16 ha hc fun i hi => ?_, fun h i hi => by rw [h]⟩
  have := h i hi
  rwa [show min 8 (128 - 8 * i) = 8 by omega, keepB_full, keepB_full] at this
def adSix : Addr := ⟨6, [255, 0, 0, 0, 0, 0, 0, 0, 0, 0, 0, 0, 0, 0, 0, 0]⟩
def adOne : Addr := ⟨6, one6⟩
def adZero6 : Addr := ⟨6, zeros⟩
/-- What the nets say, and the kind. -/
structure Nets (a : Addr) (l1 l2 m1 m2 z1 z2 al : Bool) (k : Int) : Prop where
  l1 : a.within (ad4 127 0 0 0) 8 = l1
  l2 : a.within adOne 128 = l2
  m1 : a.within (ad4 224 0 0 0) 4 = m1
  m2 : a.within adSix 8 = m2
  z1 : a.within (ad4 0 0 0 0) 32 = z1
  z2 : a.within adZero6 128 = z2
  al : a.within (ad4 255 255 255 255) 32 = al
  k : a.kind = k
theorem first_of {a : Addr} {x : UInt8} {n : Int} (h : (x.toNat : Int) = n) : a.b.getD 0 0 = x ↔ a.first = n := by
  unfold Addr.first
  rw [← h]
  exact ⟨fun h => by rw [h], fun h => UInt8.toNat.inj (by omega)⟩
theorem kinds {a : Addr} (ha : a.ok) (hv : a.valid = true) :
    Nets a true false false false false false false 2 ∨ Nets a false false true false false false false 3 ∨ Nets a false false false false true false false 1 ∨ Nets a false false false false false false true 4 ∨ Nets a false false false false false false false 5 ∨
    Nets a false true false false false false false 2 ∨ Nets a false false false true false false false 3 ∨ Nets a false false false false false true false 1 := by
  have hnv : ¬ a.valid = false := by rw [hv]; decide
  rcases valid_v hv with h4 | h6
  · have hn := (nb_four hv h4).1
    have e1 := within_8 (c := ad4 127 0 0 0) ha rfl hv (by decide) h4 (by rw [hn]; decide) (by decide)
    have e2 := within_other (a := a) (c := adOne) (by rw [h4]; decide) 128
    have e3 := within_4 (c := ad4 224 0 0 0) ha rfl hv (by decide) h4 (by rw [hn]; decide) (by decide) rfl
    have e4 := within_other (a := a) (c := adSix) (by rw [h4]; decide) 8
    have e5 := within_32 (c := ad4 0 0 0 0) ha rfl hv (by decide) h4 rfl
    have e6 := within_other (a := a) (c := adZero6) (by rw [h4]; decide) 128
    have e7 := within_32 (c := ad4 255 255 255 255) ha rfl hv (by decide) h4 rfl
    have hf : a.b.getD 0 0 = 127 ↔ a.first = 127 := first_of rfl
    have ek : a.kind = if a.b = zeros then 1 else if a.first = 127 then 2 else if 224 ≤ a.first then (if a.first ≤ 239 then 3 else if a.b = bcast then 4 else 5) else if a.b = bcast then 4 else 5 := by
      unfold Addr.kind; rw [if_neg hnv, if_neg (show ¬ a.v = 6 by omega)]
    by_cases hz : a.b = zeros
    · have f0 : a.first = 0 := by unfold Addr.first; rw [hz]; rfl
      refine .inr (.inr (.inl ⟨e1.trans (decide_eq_false fun h => ?_), e2, e3.trans (decide_eq_false fun h => ?_), e4, e5.trans (decide_eq_true hz), e6, e7.trans (decide_eq_false fun h => ?_), ek.trans (if_pos hz)⟩))
      · have := hf.1 h; omega
      · omega
      · rw [hz] at h; revert h; decide
    · rw [if_neg hz] at ek
      by_cases h127 : a.first = 127
      · refine .inl ⟨e1.trans (decide_eq_true (hf.2 h127)), e2, e3.trans (decide_eq_false fun h => ?_), e4, e5.trans (decide_eq_false hz), e6, e7.trans (decide_eq_false fun h => ?_), ek.trans (if_pos h127)⟩
        · omega
        · have : a.first = 255 := by unfold Addr.first; rw [h]; rfl
          omega
      · rw [if_neg h127] at ek
        have e1' := e1.trans (decide_eq_false fun h => h127 (hf.1 h))
        by_cases hm : 224 ≤ a.first ∧ a.first ≤ 239
        · rw [if_pos hm.1, if_pos hm.2] at ek
          refine .inr (.inl ⟨e1', e2, e3.trans (decide_eq_true hm), e4, e5.trans (decide_eq_false hz), e6, e7.trans (decide_eq_false fun h => ?_), ek⟩)
          have : a.first = 255 := by unfold Addr.first; rw [h]; rfl
          omega
        · have e3' := e3.trans (decide_eq_false hm)
          have ek' : a.kind = if a.b = bcast then 4 else 5 := by
            rw [ek]
            by_cases h224 : 224 ≤ a.first
            · rw [if_pos h224, if_neg (by omega)]
            · rw [if_neg h224]
          by_cases hb : a.b = bcast
          · exact .inr (.inr (.inr (.inl ⟨e1', e2, e3', e4, e5.trans (decide_eq_false hz), e6, e7.trans (decide_eq_true hb), ek'.trans (if_pos hb)⟩)))
          · exact .inr (.inr (.inr (.inr (.inl ⟨e1', e2, e3', e4, e5.trans (decide_eq_false hz), e6, e7.trans (decide_eq_false hb), ek'.trans (if_neg hb)⟩))))
  · have hn := Addr.bits_six h6
    have e1 := within_other (a := a) (c := ad4 127 0 0 0) (by rw [h6]; decide) 8
    have e2 := within_128 (c := adOne) ha rfl hv (by decide) h6 rfl
    have e3 := within_other (a := a) (c := ad4 224 0 0 0) (by rw [h6]; decide) 4
    have e4 := within_8 (c := adSix) ha rfl hv (by decide) h6 (by rw [hn]; decide) (by decide)
    have e5 := within_other (a := a) (c := ad4 0 0 0 0) (by rw [h6]; decide) 32
    have e6 := within_128 (c := adZero6) ha rfl hv (by decide) h6 rfl
    have e7 := within_other (a := a) (c := ad4 255 255 255 255) (by rw [h6]; decide) 32
    have hf : a.b.getD 0 0 = 255 ↔ a.first = 255 := first_of rfl
    have ek : a.kind = if a.b = zeros then 1 else if a.b = one6 then 2 else if a.first = 255 then 3 else 5 := by
      unfold Addr.kind; rw [if_neg hnv, if_pos h6]
    by_cases hz : a.b = zeros
    · have f0 : a.first = 0 := by unfold Addr.first; rw [hz]; rfl
      refine .inr (.inr (.inr (.inr (.inr (.inr (.inr ⟨e1, e2.trans (decide_eq_false fun h => ?_), e3, e4.trans (decide_eq_false fun h => ?_), e5, e6.trans (decide_eq_true hz), e7, ek.trans (if_pos hz)⟩))))))
      · rw [hz] at h; revert h; decide
      · have := hf.1 h; omega
    · rw [if_neg hz] at ek
      by_cases ho : a.b = one6
      · have f0 : a.first = 0 := by unfold Addr.first; rw [ho]; rfl
        refine .inr (.inr (.inr (.inr (.inr (.inl ⟨e1, e2.trans (decide_eq_true ho), e3, e4.trans (decide_eq_false fun h => ?_), e5, e6.trans (decide_eq_false hz), e7, ek.trans (if_pos ho)⟩)))))
        have := hf.1 h; omega
      · rw [if_neg ho] at ek
        by_cases hm : a.first = 255
        · exact .inr (.inr (.inr (.inr (.inr (.inr (.inl ⟨e1, e2.trans (decide_eq_false ho), e3, e4.trans (decide_eq_true (hf.2 hm)), e5, e6.trans (decide_eq_false hz), e7, ek.trans (if_pos hm)⟩))))))
        · exact .inr (.inr (.inr (.inr (.inl ⟨e1, e2.trans (decide_eq_false ho), e3, e4.trans (decide_eq_false fun h => hm (hf.1 h)), e5, e6.trans (decide_eq_false hz), e7, ek.trans (if_neg hm)⟩))))
end Go.Proofs.YtakdcndkpipfbaaDoor.Ad
