/- One value appended to a slice that the call itself has made; a slice's row as a list. Conditions: none beyond those that each theorem states. -/
import Derived.Test.YtpciggnanlflkaaGreatDoorBq
import Derived.Laws.OwnMore
import Derived.Laws.AppendOwnNone
import Derived.Maps.AppendAt
import Derived.Lib.ConvBytes
namespace Go.Proofs.YtpciggnanlflkaaGreatDoor.W
set_option linter.unusedVariables false
set_option linter.unusedSimpArgs false
open Go.RowKit
/-- An element type of one cell. -/
def Elem (P : Program) (E : TypeId) : Prop := ∃ (z : Value) (b : Nat), (P.info? E).map (fun i => (i.zero, i.size, i.bytes)) = some (some z, 1, b) ∧ z.cells.size = 1 ∧ b ≤ 16
/-- The slice v owns the row of the values xs. -/
def Row {α : Type} (enc : α → Value) (w : World) (B : Nat) (E : TypeId) (v : Value) (xs : List α) : Prop := w.ownsRow B E 1 v xs.length (xs.map enc)
theorem cell_new (w : World) (x : Value) (t : TypeId) : (w.alloc (.cells #[x] t)).cell? ⟨w.heap.size, 0, none⟩ = some x := by simp
theorem bytesWorld_below (w : World) (e : TypeId) (s : ByteArray) : Below w.heap.size w (Lib.bytesWorld w e s) := by
  refine ⟨?_, ?_, ?_, by rw [Lib.bytesWorld_size]; omega, fun k hk => Lib.bytesWorld_at_old w e s k hk⟩ <;> (unfold Lib.bytesWorld World.freeze; split <;> rfl)
/-- A text turned into a slice of bytes. -/
theorem wpList_conv {P : Program} {w : World} {ops : Array Oper} {rest : List Oper} {o : Oper} {a : Act} {Q : Exit → Act → World → Prop} (hgd : o.guard = none) (src dst e : TypeId) {u : TypeDesc} (hs : P.underlying src = some u) (hd : P.underlying dst = some (.slice e)) (he : P.underlying e = some (.int .u8)) (x : Operand)
    (ho : o.op = .convert src dst x) (s : ByteArray) (hx : a.eval x = .string s)
    (h : ∀ g c w', Below w.heap.size w w' → w.heap.size ≤ g → g < w'.heap.size → Hid (∀ i, i < s.size → w'.cell? ⟨g, i, none⟩ = some (.int .u8 (s.data.toList.getD i 0).toNat)) → wpList P ops Q rest (a.put o.dst (.slice (some ⟨g, 0, none⟩) s.size c)) w') : wpList P ops Q (o :: rest) a w := by
  refine wpList_plain hgd fun K hK => ?_
  unfold Oper.wp execOp
  simp only [ho, hx, Sem.run_bind, Lib.run_convert_string_bytes w src dst e s hs hd he, Result.andThen_ok, Sem.run_pure]
  exact hK _ _ (h _ _ _ (bytesWorld_below w e s) (Nat.le_refl _) (by rw [Lib.bytesWorld_size]; omega) (Lib.hid fun i hi => Lib.bytesWorld_cell w e s i hi))
section
variable {P : Program} {α : Type} {enc : α → Value} {w w' : World} {B : Nat} {E : TypeId} {v : Value} {xs : List α}
theorem Row.nil (enc : α → Value) (w : World) (B : Nat) (E : TypeId) : Row enc w B E (.slice none 0 0) [] := World.ownsRow_nil _ _ _ _
theorem Row.later (h : Row enc w B E v xs) (hb : Below w.heap.size w w') : Row enc w' B E v xs := by
  refine World.ownsRow.kept (row := none) h ⟨hb.os, hb.tape, hb.output, hb.size, fun k hk _ => hb.block k hk⟩ ?_
  cases hv : v.ownBlock with
  | none => exact .inl rfl
  | some k => exact .inr (by simp)
theorem Row.drew (h : Row enc w B E v xs) : Row enc w.drew B E v xs := h.later ((Below.refl _ _).drew)
theorem Row.alloc (h : Row enc w B E v xs) (o : Obj) : Row enc (w.alloc o) B E v xs := World.ownsRow.alloc h o
/-- Nil, or a row of cells. -/
theorem Row.cells (h : Row enc w B E v xs) : (v = .slice none 0 0 ∧ xs = []) ∨ ∃ g c, v = .slice (some ⟨g, 0, none⟩) xs.length c ∧ B ≤ g ∧ g < w.heap.size ∧ xs.length ≤ c ∧ ∀ i x, xs[i]? = some x → w.cell? ⟨g, i, none⟩ = some (enc x) := by
  have hl := World.ownsRow.lt h
  obtain ⟨h1, h2⟩ := id h
  rcases h2 with ⟨rfl, h2⟩ | ⟨g, cap, cur, hv, hg, hh, hr⟩
  · exact .inl ⟨rfl, by simpa using h2⟩
  · refine .inr ⟨g, cap, hv, hg, ?_, ?_, fun i x hx => ?_⟩
    · have := hl g (by rw [hv]; rfl); exact this.2
    · exact hr.1
    · have := World.ownsRow.cells h (g := g) (by rw [hv]; rfl) i (enc x) (by simp [hx])
      have e : (⟨g, 0, none⟩ : Addr).add i = ⟨g, i, none⟩ := by unfold Addr.add; split <;> simp_all
      rwa [e] at this
theorem Row.mono {B' : Nat} (h : Row enc w B E v xs) (hB : B' ≤ B) : Row enc w B' E v xs := by
  obtain ⟨h1, h2⟩ := h
  refine ⟨h1, ?_⟩
  rcases h2 with h2 | ⟨g, cap, cur, hv, hg, r⟩
  · exact .inl h2
  · exact .inr ⟨g, cap, cur, hv, Nat.le_trans hB hg, r⟩
def sliceLen : Value → Nat
  | .slice _ n _ => n
  | _ => 0
theorem Row.len (h : Row enc w B E v xs) : sliceLen v = xs.length := by
  rcases h.cells with ⟨rfl, rfl⟩ | ⟨g, c, rfl, _⟩ <;> rfl
theorem Row.some {n : Nat} (h : Row enc w B E v xs) (hn : xs.length = n) (h0 : 0 < n) : ∃ g c, v = .slice (some ⟨g, 0, none⟩) n c ∧ B ≤ g ∧ g < w.heap.size ∧ n ≤ c ∧ Hid (∀ i x, xs[i]? = Option.some x → w.cell? ⟨g, i, none⟩ = Option.some (enc x)) := by
  subst hn
  rcases h.cells with ⟨_, rfl⟩ | ⟨g, c, hv, hg, hl, hc, hx⟩
  · simp at h0
  · exact ⟨g, c, hv, hg, hl, hc, hx⟩
theorem Row.slice (h : Row enc w B E v xs) : ∃ a c, v = .slice a xs.length c := by
  rcases h.cells with ⟨rfl, rfl⟩ | ⟨g, c, rfl, _⟩
  · exact ⟨none, 0, rfl⟩
  · exact ⟨_, c, rfl⟩
/-- Two slices whose rows lie in two blocks. -/
def Apart (u v : Value) : Prop := u.ownBlock = none ∨ u.ownBlock ≠ v.ownBlock
theorem Row.lt (h : Row enc w B E v xs) (k : Nat) (hk : v.ownBlock = Option.some k) : B ≤ k ∧ k < w.heap.size := World.ownsRow.lt h k hk
theorem Apart.of {u : Value} {B' : Nat} {ys : List α} {w1 : World} (hu : Row enc w1 B' E u ys) (hv : Row enc w B E v xs) (h : w.heap.size ≤ B') : Apart u v := by
  unfold Apart
  cases hb : u.ownBlock with
  | none => exact .inl rfl
  | some k =>
    refine .inr fun he => ?_
    have h1 := hu.lt k hb
    have h2 := hv.lt k he.symm
    omega
theorem Apart.grow {u v' : Value} {B' : Nat} {ys : List α} (h : Apart u v) (hu : Row enc w B' E u ys) (hv : v'.ownBlock = v.ownBlock ∨ v'.ownBlock = Option.some w.heap.size) : Apart u v' := by
  unfold Apart at *
  rcases h with h | h
  · exact .inl h
  · rcases hv with hv | hv
    · rw [hv]; exact .inr h
    · refine .inr fun he => ?_
      rw [hv] at he
      have := hu.lt _ he
      omega
/-- One value more. -/
theorem append_one {ops : Array Oper} {rest : List Oper} {o : Oper} {a : Act} {Q : Exit → Act → World → Prop} (he : ∀ x, (enc x).oneCell' = true) (T : TypeId) (hT : P.underlying T = some (.slice E)) (hE : Elem P E) (hgd : o.guard = none) (s x : Operand)
    (ho : o.op = .call { callee := .builtin .append, args := #[s, x], argTypes := #[T, T] }) (hs : a.eval s = v) (hr : Row enc w B E v xs) (y : α) (g : Nat) (hx : a.eval x = .slice (some ⟨g, 0, none⟩) 1 1)
    (hc : w.cell? ⟨g, 0, none⟩ = some (enc y)) (hn : xs.length ≤ 1099511627776) (hb : B ≤ w.heap.size)
    (h : ∀ v' w', Row enc w' B E v' (xs ++ [y]) → w.grownBy w' v.ownBlock → wpList P ops Q rest (a.put o.dst v') w') : wpList P ops Q (o :: rest) a w := by
  obtain ⟨z, b, hi, hz, hb16⟩ := hE
  obtain ⟨i, hi, hz0, hz1, hz2⟩ := info_parts hi
  refine wpList_append_own _ hgd s x T ho B E i z 1 b hT hi hz0 hz1 hz2 hz (by decide) v xs.length (xs.map enc) hs hr ⟨g, 0, none⟩ 1 1 [enc y] hx rfl ?_ ?_ ?_ ?_ hb ?_
  · intro j u hj
    match j, hj with
    | 0, hj => simp at hj; subst hj; simpa [Addr.add] using hc
  · intro u hu; simp at hu; subst hu; exact he y
  · unfold maxLen; omega
  · calc (xs.length + 1) * b ≤ (xs.length + 1) * 16 := Nat.mul_le_mul_left _ hb16
      _ ≤ 140737488355328 := by omega
  · intro v' w' h1 h2 _
    refine h v' w' ?_ h2
    unfold Row
    rw [List.length_append, List.map_append]
    exact h1
/-- One value more, and where the row lies then. -/
theorem append_one_at {ops : Array Oper} {rest : List Oper} {o : Oper} {a : Act} {Q : Exit → Act → World → Prop} (he : ∀ x, (enc x).oneCell' = true) (T : TypeId) (hT : P.underlying T = some (.slice E)) (hE : Elem P E) (hgd : o.guard = none) (s x : Operand)
    (ho : o.op = .call { callee := .builtin .append, args := #[s, x], argTypes := #[T, T] }) (hs : a.eval s = v) (hr : Row enc w B E v xs) (y : α) (g : Nat) (hx : a.eval x = .slice (some ⟨g, 0, none⟩) 1 1)
    (hc : w.cell? ⟨g, 0, none⟩ = some (enc y)) (hn : xs.length ≤ 1099511627776) (hb : B ≤ w.heap.size)
    (h : ∀ v' w', Row enc w' B E v' (xs ++ [y]) → w.grownBy w' v.ownBlock → (v'.ownBlock = v.ownBlock ∨ v'.ownBlock = some w.heap.size) → wpList P ops Q rest (a.put o.dst v') w') : wpList P ops Q (o :: rest) a w := by
  obtain ⟨z, b, hi, hz, hb16⟩ := hE
  obtain ⟨i, hi, hz0, hz1, hz2⟩ := info_parts hi
  refine wpList_append_own_at _ hgd s x T ho B E i z 1 b hT hi hz0 hz1 hz2 hz (by decide) v xs.length (xs.map enc) hs hr ⟨g, 0, none⟩ 1 1 [enc y] hx rfl ?_ ?_ ?_ ?_ hb ?_
  · intro j u hj
    match j, hj with
    | 0, hj => simp at hj; subst hj; simpa [Addr.add] using hc
  · intro u hu; simp at hu; subst hu; exact he y
  · unfold maxLen; omega
  · calc (xs.length + 1) * b ≤ (xs.length + 1) * 16 := Nat.mul_le_mul_left _ hb16
      _ ≤ 140737488355328 := by omega
  · intro v' w' h1 h2 _ h4
    refine h v' w' ?_ h2 h4
    unfold Row
    rw [List.length_append, List.map_append]
    exact h1
theorem Row.kept {row : Option Nat} (h : Row enc w B E v xs) (hg : w.grownBy w' row) (hne : v.ownBlock = none ∨ v.ownBlock ≠ row) : Row enc w' B E v xs := World.ownsRow.kept h hg hne
/-- A row's values more. -/
theorem append_row {ops : Array Oper} {rest : List Oper} {o : Oper} {a : Act} {Q : Exit → Act → World → Prop} {B' : Nat} {u : Value} {ys : List α} (he : ∀ x, (enc x).oneCell' = true) (T : TypeId) (hT : P.underlying T = some (.slice E)) (hE : Elem P E) (hgd : o.guard = none) (s x : Operand)
    (ho : o.op = .call { callee := .builtin .append, args := #[s, x], argTypes := #[T, T] }) (hs : a.eval s = v) (hr : Row enc w B E v xs) (hx : a.eval x = u) (hu : Row enc w B' E u ys) (hn : xs.length + ys.length ≤ 1099511627776) (hb : B ≤ w.heap.size)
    (h : ∀ v' w', Row enc w' B E v' (xs ++ ys) → w.grownBy w' v.ownBlock → wpList P ops Q rest (a.put o.dst v') w') : wpList P ops Q (o :: rest) a w := by
  obtain ⟨z, b, hi, hz, hb16⟩ := hE
  obtain ⟨i, hi, hz0, hz1, hz2⟩ := info_parts hi
  rcases hu.cells with ⟨rfl, rfl⟩ | ⟨g, c, rfl, _, _, _, hc⟩
  · refine wpList_append_own_none hgd s x T ho B E i 1 hT hi v xs.length (xs.map enc) hs hr hx ?_
    exact h v w (by rw [List.append_nil]; exact hr) ⟨rfl, rfl, rfl, Nat.le_refl _, fun _ _ _ => rfl⟩
  · refine wpList_append_own _ hgd s x T ho B E i z 1 b hT hi hz0 hz1 hz2 hz (by decide) v xs.length (xs.map enc) hs hr ⟨g, 0, none⟩ ys.length c (ys.map enc) hx (by simp) ?_ ?_ ?_ ?_ hb ?_
    · intro j y hj
      rw [List.getElem?_map] at hj
      obtain ⟨q, hq, rfl⟩ := Option.map_eq_some_iff.1 hj
      have e : (⟨g, 0, none⟩ : Addr).add j = ⟨g, j, none⟩ := by unfold Addr.add; split <;> simp_all
      rw [e]; exact hc j q hq
    · intro y hy; obtain ⟨q, _, rfl⟩ := List.mem_map.1 hy; exact he q
    · unfold maxLen; omega
    · calc (xs.length + ys.length) * b ≤ (xs.length + ys.length) * 16 := Nat.mul_le_mul_left _ hb16
        _ ≤ 140737488355328 := by omega
    · intro v' w' h1 h2 _
      refine h v' w' ?_ h2
      unfold Row
      rw [List.length_append, List.map_append]
      exact h1
theorem Row.below {W : World} {B' : Nat} (h : Row enc w B E v xs) (hg : w.grownBy w' v.ownBlock) (hb : Below B' W w) (hB : B' ≤ B) (hB' : B' ≤ w.heap.size) : Below B' W w' :=
  hb.grown hg hB' fun k hk => Nat.le_trans hB (World.ownsRow.lt h k hk).1
end
end Go.Proofs.YtpciggnanlflkaaGreatDoor.W
