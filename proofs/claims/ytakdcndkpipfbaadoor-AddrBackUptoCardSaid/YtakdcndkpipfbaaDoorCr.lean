/- What is read is an address that counts, and a printed text is short: plain Lean, no program. -/
import Derived.Test.YtakdcndkpipfbaaDoorCp
import Derived.Test.YtakdcndkpipfbaaDoorBl
namespace Go.Proofs.YtakdcndkpipfbaaDoor.Ad
set_option linter.unusedVariables false
set_option linter.unusedSimpArgs false
theorem valid_six (b : List UInt8) : (⟨6, b⟩ : Addr).valid = true := by
  unfold Addr.valid; rw [Addr.bits_six rfl]; rfl
theorem read_valid {l : List UInt8} {x : Addr} (h : readV l = some x) : x.valid = true := by
  unfold readV at h
  split at h
  · unfold read6 at h
    split at h
    · split at h
      · split at h
        · injection h with h; subst h; exact valid_six _
        · cases h
      · split at h
        · injection h with h; subst h; exact valid_six _
        · cases h
    · cases h
  · unfold read4 at h
    split at h
    · split at h
      · injection h with h; subst h
        have hz := Addr.zeros_of (a := ⟨4, partF (decB (cuts 46 l)) 4⟩) (part_ok _ _ _) fun k hk => by
          show (partF _ 4).getD (4 + k) 0 = 0
          rw [partF_at _ _ _ (by omega), if_neg (by omega)]
        unfold Addr.valid Addr.nb
        rw [if_pos rfl, if_pos hz]; rfl
      · cases h
    · cases h
theorem print_none {a : Addr} (h : a.valid = false) : printV a = [] := by unfold printV; rw [h]; rfl
theorem dec_len : ∀ k : Fin 256, (textB 10 k.val).length ≤ 3 := by decide +kernel
theorem print_len {a : Addr} : (printV a).length ≤ 100 := by
  unfold printV
  split
  · split
    · rw [print4_out]
      have h0 := dec_len ⟨(a.b.getD 0 0).toNat, (a.b.getD 0 0).toNat_lt⟩
      have h1 := dec_len ⟨(a.b.getD 1 0).toNat, (a.b.getD 1 0).toNat_lt⟩
      have h2 := dec_len ⟨(a.b.getD 2 0).toNat, (a.b.getD 2 0).toNat_lt⟩
      have h3 := dec_len ⟨(a.b.getD 3 0).toNat, (a.b.getD 3 0).toNat_lt⟩
      simp only [List.length_append, List.length_cons, List.length_nil]
      simp only at h0 h1 h2 h3
      omega
    · unfold print6
      rcases best_fits a.b with h | ⟨h1, h2, h3⟩
      · rw [h, if_pos rfl]; have := joinG_len a.b 0 8; omega
      · rw [if_neg (by omega)]
        have e1 := joinG_len a.b 0 (best a.b).1
        have e2 := joinG_len a.b ((best a.b).1 + (best a.b).2) (8 - ((best a.b).1 + (best a.b).2))
        simp only [List.length_append, List.length_cons, List.length_nil]
        omega
  · simp
end Go.Proofs.YtakdcndkpipfbaaDoor.Ad
