/- Values whose cells are plain (numbers, bools, strings; structs and arrays of these): what a reading of such a value says of its cells. Conditions: none beyond those that each theorem states. -/
import Derived.OpenShut
import Derived.WideShapes
import Derived.ChangeArms
import Derived.ShutString
import Derived.Deep.Slices
import Derived.Carry
import Derived.Below
namespace Go.Proofs.YtpaplobjmmpliaaDoor.Fl
set_option linter.unusedVariables false
set_option linter.unusedSimpArgs false
open Go.RowKit Go.Deep

/-- What one cell may hold. -/
inductive FK where
  | int (k : IntKind)
  | bool
  | str
def FK.ok : FK → Value → Prop
  | .int k, v => ∃ n, v = .int k n ∧ (Lit.int k n).wf = true
  | .bool, v => ∃ b, v = .bool b
  | .str, v => ∃ s : ByteArray, v = .string s ∧ s.size ≤ maxLen
def flatFields (P : Program) (F : TypeId → Option (List FK)) : Nat → List Field → Option (List FK)
  | _, [] => some []
  | off, f :: fs => if f.offset = off then (F f.type).bind fun ks => if P.cellsOf f.type = ks.length then (flatFields P F (off + ks.length) fs).map fun r => ks ++ r else none else none
def flatReps (ks : List FK) : Nat → List FK
  | 0 => []
  | c + 1 => ks ++ flatReps ks c
/-- The cells of a plain type, in order. -/
def flatK (P : Program) : Nat → TypeId → Option (List FK)
  | 0, _ => none
  | n + 1, t => match P.underlying t with
    | some .bool => some [.bool]
    | some (.int k) => some [.int k]
    | some .string => some [.str]
    | some (.struct fs) => (flatFields P (flatK P n) 0 fs.toList).bind fun ks => if P.cellsOf t = ks.length then some ks else none
    | some (.array m e) => (flatK P n e).bind fun ks => if P.cellsOf e = ks.length ∧ P.cellsOf t = m * ks.length then some (flatReps ks m) else none
    | _ => none
/-- The cells cs are of the kinds ks. -/
def Fits (ks : List FK) (cs : List Value) : Prop := cs.length = ks.length ∧ ∀ (i : Nat) (k : FK), ks[i]? = some k → ∃ v, cs[i]? = some v ∧ k.ok v

section
variable {P : Program} {H : Type} {enc : TypeId × Value → H} {w : World} {base : Nat} {spare : Nat → Bool} {held : Bool}
theorem piece {cs : List Value} {off len : Nat} {ks : List FK} (h : Fits ks ((cs.drop off).take len)) (i : Nat) (k : FK) (hk : ks[i]? = some k) : ∃ v, cs[off + i]? = some v ∧ k.ok v := by
  obtain ⟨v, hv, ho⟩ := h.2 i k hk
  refine ⟨v, ?_, ho⟩
  rw [List.getElem?_take] at hv
  split at hv
  · rwa [List.getElem?_drop] at hv
  · cases hv
theorem fields_fit {F : TypeId → Option (List FK)} {cs : List Value} : ∀ (fs : List Field) (off : Nat) (ks : List FK), flatFields P F off fs = some ks →
    (∀ f ∈ fs, ∀ ks, F f.type = some ks → Fits ks ((cs.drop f.offset).take (P.cellsOf f.type))) → ∀ (i : Nat) (k : FK), ks[i]? = some k → ∃ v, cs[off + i]? = some v ∧ k.ok v
  | [], off, ks, h, _ => by
    simp only [flatFields, Option.some.injEq] at h
    subst h
    intro i k hk; simp at hk
  | f :: fs, off, ks, h, hf => by
    simp only [flatFields] at h
    split at h
    · rename_i ho
      obtain ⟨k1, hk1, h⟩ := Option.bind_eq_some_iff.1 h
      split at h
      · rename_i hl
        obtain ⟨r, hr, rfl⟩ := Option.map_eq_some_iff.1 h
        intro i k hk
        by_cases hi : i < k1.length
        · rw [List.getElem?_append_left hi] at hk
          have := piece (hf f List.mem_cons_self k1 hk1) i k hk
          rwa [ho] at this
        · rw [List.getElem?_append_right (by omega)] at hk
          have := fields_fit fs (off + k1.length) r hr (fun g hg => hf g (List.mem_cons_of_mem _ hg)) (i - k1.length) k hk
          rwa [show off + k1.length + (i - k1.length) = off + i by omega] at this
      · cases h
    · cases h
theorem reps_fit {cs : List Value} {ks : List FK} (hl : 0 < ks.length ∨ ks = []) : ∀ (c o : Nat), (∀ j, j < c → Fits ks ((cs.drop ((o + j) * ks.length)).take ks.length)) → ∀ (i : Nat) (k : FK), (flatReps ks c)[i]? = some k → ∃ v, cs[o * ks.length + i]? = some v ∧ k.ok v
  | 0, o, h => by intro i k hk; simp [flatReps] at hk
  | c + 1, o, h => by
    intro i k hk
    simp only [flatReps] at hk
    by_cases hi : i < ks.length
    · rw [List.getElem?_append_left hi] at hk
      exact piece (by simpa using h 0 (by omega)) i k hk
    · rw [List.getElem?_append_right (by omega)] at hk
      have := reps_fit hl c (o + 1) (fun j hj => by have := h (j + 1) (by omega); rwa [show o + (j + 1) = o + 1 + j by omega] at this) (i - ks.length) k hk
      rwa [show (o + 1) * ks.length + (i - ks.length) = o * ks.length + i by rw [Nat.add_mul]; omega] at this
theorem reps_len (ks : List FK) : ∀ c, (flatReps ks c).length = c * ks.length
  | 0 => by simp [flatReps]
  | c + 1 => by simp [flatReps, reps_len ks c, Nat.add_mul]; omega
theorem flat_fits : ∀ (n : Nat) (t : TypeId) (ks : List FK) (fuel : Nat) (cs : List Value) (x : DataW H × List MemPlace), flatK P n t = some ks → DataW.trod enc P w base spare held fuel t cs = some x → Fits ks cs
  | 0, t, ks, fuel, cs, x, hk, h => by simp [flatK] at hk
  | n + 1, t, ks, fuel, cs, x, hk, h => by
    simp only [flatK] at hk
    cases hu : P.underlying t with
    | none => rw [hu] at hk; cases hk
    | some u =>
      rw [hu] at hk
      cases u <;> simp only [reduceCtorEq, Option.some.injEq] at hk
      case bool =>
        subst hk
        obtain ⟨b, rfl, _⟩ := DataW.trod_bool hu h
        exact ⟨rfl, fun i k hk => by cases i with
          | zero => simp at hk; subst hk; exact ⟨_, rfl, _, rfl⟩
          | succ i => simp at hk⟩
      case int ik =>
        subst hk
        obtain ⟨z, rfl, _, hz⟩ := DataW.trod_int hu h
        exact ⟨rfl, fun i k hk => by cases i with
          | zero => simp at hk; subst hk; exact ⟨_, rfl, _, rfl, hz⟩
          | succ i => simp at hk⟩
      case string =>
        subst hk
        obtain ⟨s, rfl, _, hs⟩ := DataW.trod_string hu h
        exact ⟨rfl, fun i k hk => by cases i with
          | zero => simp at hk; subst hk; exact ⟨_, rfl, _, rfl, hs⟩
          | succ i => simp at hk⟩
      case struct fs =>
        obtain ⟨ks', hks, hk⟩ := Option.bind_eq_some_iff.1 hk
        split at hk
        · rename_i hc
          obtain rfl := Option.some.inj hk
          obtain ⟨xs, m, rfl, _, hl, hxs, hf⟩ := DataW.trod_struct hu h
          refine ⟨hl.trans hc, fun i k hk => ?_⟩
          have := fields_fit (P := P) (cs := cs) fs.toList 0 ks' hks (fun f hf' ks hk => by
            obtain ⟨j, hj, hfj⟩ := List.mem_iff_getElem.1 hf'
            have hj' : fs[j]? = some f := by rw [← Array.getElem?_toList, List.getElem?_eq_getElem hj, hfj]
            have h1 := hf j f hj'
            have hjx : j < xs.length := by rw [hxs]; simpa using hj
            rw [List.getElem?_eq_getElem hjx] at h1
            exact flat_fits n f.type ks m _ _ hk h1) i k hk
          simpa using this
        · cases hk
      case array m e =>
        obtain ⟨k1, hk1, hk⟩ := Option.bind_eq_some_iff.1 hk
        split at hk
        · rename_i hc
          obtain rfl := Option.some.inj hk
          obtain ⟨xs, q, rfl, _, hl, hxs, hf⟩ := DataW.trod_array hu h
          refine ⟨by rw [hl, hc.2, reps_len], fun i k hk => ?_⟩
          have hpos : 0 < k1.length ∨ k1 = [] := by cases k1 <;> simp
          have := reps_fit (cs := cs) hpos m 0 (fun j hj => by
            have h1 := hf j hj
            rw [List.getElem?_eq_getElem (by omega)] at h1
            have h2 := flat_fits n e k1 q _ _ hk1 h1
            rw [hc.1] at h2
            simpa using h2) i k hk
          simpa using this
        · cases hk
end
end Go.Proofs.YtpaplobjmmpliaaDoor.Fl
