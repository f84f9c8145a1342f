/- Lists of routes as texts: what is read, plain; one route appended. Conditions: a text is shorter than 2^32 - 15; the library tables hold what its text lays. -/
import Derived.Test.YtpaplobjmmpliaaDoorRm
import Derived.Great.BuildSlice
namespace Go.Proofs.YtpaplobjmmpliaaDoor.Ad
set_option linter.unusedVariables false
set_option linter.unusedSimpArgs false
open Go.RowKit W
theorem cut_le (l sep : List UInt8) : (Lib.cut l sep).1.length ≤ l.length ∧ (Lib.cut l sep).2.1.length ≤ l.length := by
  unfold Lib.cut
  split
  · exact ⟨by simp; omega, by simp⟩
  · exact ⟨Nat.le_refl _, by simp⟩
theorem cut_lt {l sep : List UInt8} (h : l ≠ []) (hs : sep ≠ []) : (Lib.cut l sep).2.1.length < l.length := by
  have h1 := List.length_pos_iff.2 h
  have h2 := List.length_pos_iff.2 hs
  unfold Lib.cut
  split
  · simp; omega
  · simpa using h1
/-- The routes of a text, a line each. -/
def linesV (l : List UInt8) : Option (List Rt) :=
  if h : l = [] then some []
  else if (Lib.cut l [10]).2.2 = true ∧ (lineV (Lib.cut l [10]).1).2 = true then (linesV (Lib.cut l [10]).2.1).map ((lineV (Lib.cut l [10]).1).1 :: ·) else none
termination_by l.length
decreasing_by exact cut_lt h (by simp)
theorem linesV_nil : linesV [] = some [] := by rw [linesV, dif_pos rfl]
theorem linesV_no {l : List UInt8} (h : l ≠ []) (h2 : ¬ ((Lib.cut l [10]).2.2 = true ∧ (lineV (Lib.cut l [10]).1).2 = true)) : linesV l = none := by rw [linesV, dif_neg h, if_neg h2]
theorem linesV_step {l : List UInt8} (h : l ≠ []) (h2 : (Lib.cut l [10]).2.2 = true ∧ (lineV (Lib.cut l [10]).1).2 = true) : linesV l = (linesV (Lib.cut l [10]).2.1).map ((lineV (Lib.cut l [10]).1).1 :: ·) := by rw [linesV, dif_neg h, if_pos h2]
theorem linesV_wf : ∀ (n : Nat) (l : List UInt8), l.length ≤ n → ∀ m, linesV l = some m → ∀ r ∈ m, r.wf := by
  intro n
  induction n with
  | zero =>
    intro l hl m h r hr
    obtain rfl : l = [] := List.eq_nil_of_length_eq_zero (by omega)
    rw [linesV_nil] at h; injection h with h; subst h; cases hr
  | succ n ih =>
    intro l hl m h r hr
    by_cases h0 : l = []
    · subst h0; rw [linesV_nil] at h; injection h with h; subst h; cases hr
    · by_cases h2 : (Lib.cut l [10]).2.2 = true ∧ (lineV (Lib.cut l [10]).1).2 = true
      · rw [linesV_step h0 h2] at h
        cases h3 : linesV (Lib.cut l [10]).2.1 with
        | none => rw [h3] at h; cases h
        | some k =>
          rw [h3] at h; injection h with h; subst h
          rcases List.mem_cons.1 hr with rfl | hr
          · exact lineV_wf _
          · exact ih _ (by have := cut_lt (sep := [10]) h0 (by simp); omega) k h3 r hr
      · rw [linesV_no h0 h2] at h; cases h
/-- What Parse answers: the routes, the error. -/
def parseV (l : List UInt8) : List Rt × Int := match linesV l with
  | none => ([], 2)
  | some m => if mayV m = true then (m, 0) else ([], 1)
/-- One route as a slice of its own. -/
theorem fill_rt {r : Rt} (h : r.ok) : Instr.fill (fun i => some (i * 19, 19)) ((Array.range (1 * 19)).map ((Value.agg zeroRt.cells).cells[· % (Value.agg zeroRt.cells).cells.size]!)) [(0, .agg r.vals.toArray)] = some r.cells := by
  unfold Rt.ok Addr.ok at h
  unfold Rt.cells Rt.vals Addr.vals
  obtain ⟨x0, x1, x2, x3, x4, x5, x6, x7, x8, x9, x10, x11, x12, x13, x14, x15, hx⟩ := len16 h
  simp only [hx]
  kernel_rfl
theorem wpList_slice1 {ops : Array Oper} {rest : List Oper} {o : Oper} {a : Act} {w : World} {Q : Exit → Act → World → Prop} (hw : Region.wanted o (yielded ops a.tmps) = true) (x : Operand) (ho : o.op = .buildSlice 22 1 #[(0, x)])
    (r : Rt) (hr : r.ok) (hx : a.eval x = .agg r.vals.toArray)
    (h : wpList Tryd.prog ops Q rest (a.put o.dst (.slice (some ⟨w.heap.size, 0, none⟩) 1 1)) (w.alloc (.cells r.cells 44))) : wpList Tryd.prog ops Q (o :: rest) a w := by
  obtain ⟨i0, hi, hz0, hz1, hz2⟩ := info_parts (show (Tryd.prog.info? 44).map (fun i => (i.zero, i.size, i.bytes)) = some (some (.agg zeroRt.cells), 19, 40) by kernel_rfl)
  refine BigFrame.wpList_want hw fun _ hK => wp_buildSlice 22 44 1 _ ho r.cells i0 _ Tryd.underlying22 hi hz0 (by rw [hz1]; omega) (by rw [hz1]; omega) ?_ (hK _ _ h)
  rw [hz1]
  have e : (Array.map (fun (x : Nat × Operand) => match x with | (i, x) => (i, a.eval x)) #[(0, x)]).toList = [(0, .agg r.vals.toArray)] := by simp [hx]
  have := fill_rt hr
  rw [← e] at this
  exact this
theorem news_rt (w : World) (r : Rt) : ∀ j u, r.vals[j]? = some u → (w.alloc (.cells r.cells 44)).cell? ((⟨w.heap.size, 0, none⟩ : Go.Addr).add j) = some u := fun j u hu => by
  rw [Addr.add_lit, (Blk.new w 44 r.cells).cell, Nat.zero_add]
  simpa [Rt.cells] using hu
theorem vals_one (r : Rt) : ∀ u ∈ r.vals, u.oneCell' = true := fun u hu => by
  have := rone r
  rw [Array.all_eq_true'] at this
  exact this u (by simpa [Rt.cells] using hu)
theorem flat_snoc (l : List Rt) (r : Rt) : flat (l ++ [r]) = flat l ++ r.vals := by simp [flat]
end Go.Proofs.YtpaplobjmmpliaaDoor.Ad
