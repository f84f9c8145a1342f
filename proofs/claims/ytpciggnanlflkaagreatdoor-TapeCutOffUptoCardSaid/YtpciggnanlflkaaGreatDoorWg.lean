/- Contracts of the laws' same and own and of slices.Clone over bytes. Conditions: the bytes are fewer than 2^47. -/
import Derived.Test.YtpciggnanlflkaaGreatDoorWf
import Derived.Lib.SlBytesRow
import Derived.Laws.BytesString
import Derived.Lib.SliceRun
namespace Go.Proofs.YtpciggnanlflkaaGreatDoor.Ad
set_option linter.unusedVariables false
set_option linter.unusedSimpArgs false
open Go.RowKit Go.Maps W
theorem conv_bytes {w : World} {p : Option Go.Addr} {l : List UInt8} (h : BAt w p l) (n c : Nat) (hn : n = l.length) : (convert 26 9 (.slice p n c)).run Tryz.prog w = .ok (.string (S l)) w := by
  subst hn
  have zero : ∀ (p : Option Go.Addr), (convert 26 9 (.slice p 0 c)).run Tryz.prog w = .ok (.string (S [])) w := fun p => by
    rw [run_convert_bytes_string w 26 9 5 _ 0 c Tryz.underlying26 Tryz.underlying5 Tryz.underlying9]
    cases p <;> simp [Conv.bytesToString, loadCells]
    all_goals rfl
  rcases h with rfl | ⟨g, o, rfl, hg, hb⟩
  · exact zero p
  · have h := Lib.run_convert_whole (P := Tryz.prog) w 26 5 9 Tryz.underlying26 Tryz.underlying5 Tryz.underlying9 g o (S l) hb c
    rw [S_size] at h
    exact h
theorem wpList_conv {w : World} {ops : Array Oper} {rest : List Oper} {o : Oper} {a : Act} {Q : Exit → Act → World → Prop} (hgd : o.guard = none) (x : Operand) (ho : o.op = .convert 26 9 x)
    (p : Option Go.Addr) (l : List UInt8) (n c : Nat) (hn : n = l.length) (hx : a.eval x = .slice p n c) (hb : BAt w p l)
    (h : wpList Tryz.prog ops Q rest (a.put o.dst (.string (S l))) w) : wpList Tryz.prog ops Q (o :: rest) a w :=
  wpList_plain hgd fun K hK => by
    unfold Oper.wp execOp
    simp only [ho, hx, Sem.run_bind, conv_bytes hb n c hn, Result.andThen_ok, Sem.run_pure]
    exact hK _ _ h
theorem S_inj {a b : List UInt8} (h : S a = S b) : a = b := by rw [← S_list a, ← S_list b, h]
set_option maxRecDepth 100000 in
set_option maxHeartbeats 2000000 in
theorem same_calls (a b : List UInt8) (p q : Option Go.Addr) (n m c d : Nat) (hn : n = a.length) (hm : m = b.length) (w : World) (ha : BAt w p a) (hb : BAt w q b) :
    Calls Tryz.prog 15 #[.slice p n c, .slice q m d] w fun e w' => e = .returned (.bool (decide (a = b))) ∧ Below w.heap.size w w' := by
  have HA := Lib.hid ha
  have HB := Lib.hid hb
  have HN := Lib.hid hn
  have HM := Lib.hid hm
  clear ha hb hn hm
  go_enter Tryz.func15, Tryz.ntmps15
  go_wp2_with (first | (refine wpList_conv rfl _ rfl p a n c HN.out rfl HA.out ?_) | (refine wpList_conv rfl _ rfl q b m d HM.out rfl HB.out ?_))
  go_ret
  have e : ((S a).toList == (S b).toList) = decide (a = b) := by
    rw [ByteArray.toList_eq, ByteArray.toList_eq, S_list, S_list]
    by_cases h : a = b <;> simp [h]
  exact ⟨congrArg (fun x => Ending.returned (.bool x)) e, Below.refl _ _⟩
set_option maxRecDepth 100000 in
set_option maxHeartbeats 2000000 in
theorem own_calls (b : List UInt8) (p : Option Go.Addr) (n c : Nat) (hn : n = b.length) (hl : b.length ≤ 140737488355328) (w : World) (hb : BAt w p b) :
    Calls Tryz.prog 19 #[.slice p n c] w fun e w' => ∃ v, e = .returned v ∧ w'.ownsRow w.heap.size 5 1 v b.length (Lib.byteCells b) ∧ Below w.heap.size w w' := by
  have HB := Lib.hid (hb.later ((Below.refl w.heap.size w).alloc (Nat.le_refl _) (.cells #[] 5)))
  have HO : Hid ((w.alloc (.cells #[] 5)).ownsRow w.heap.size 5 1 (.slice (some ⟨w.heap.size, 0, none⟩) 0 0) ([] : List UInt8).length (Lib.byteCells [])) := Lib.hid (World.ownsRow_lit w #[] 0 (Nat.le_refl _) (by decide) rfl)
  have HS : Hid (w.heap.size ≤ (w.alloc (.cells #[] 5)).heap.size) := Lib.hid (by simp)
  have hl0 : ([] : List UInt8).length + b.length ≤ 140737488355328 := by simpa using hl
  have HN := Lib.hid hn
  clear hb hl hn
  go_enter Tryz.func19, Tryz.ntmps19
  go_wp2_with (at_builtin; refine wpList_append_bytes rfl _ _ rfl w.heap.size _ [] rfl HO.out p b n c HN.out rfl HB.out hl0 HS.out ?_; intro v w' hv hA)
  go_ret
  exact ⟨v, rfl, hv, ((Below.refl w.heap.size w).alloc (Nat.le_refl _) _).trans (hA.below (own_ge HO.out) HS.out)⟩
set_option maxRecDepth 100000 in
set_option maxHeartbeats 2000000 in
theorem clone_calls (b : List UInt8) (p : Option Go.Addr) (n c : Nat) (hn : n = b.length) (hl : b.length ≤ 140737488355328) (hsl : SlOk p n c) (w : World) (hb : BAt w p b) :
    Calls Tryz.prog 47 #[.slice p n c] w fun e w' => ∃ v, e = .returned v ∧ w'.ownsRow w.heap.size 5 1 v b.length (Lib.byteCells b) ∧ Below w.heap.size w w' := by
  have HB := Lib.hid (hb.later ((Below.refl w.heap.size w).alloc (Nat.le_refl _) (.cells #[] 5)))
  have HO : Hid ((w.alloc (.cells #[] 5)).ownsRow w.heap.size 5 1 (.slice (some ⟨w.heap.size, 0, none⟩) 0 0) ([] : List UInt8).length (Lib.byteCells [])) := Lib.hid (World.ownsRow_lit w #[] 0 (Nat.le_refl _) (by decide) rfl)
  have HS : Hid (w.heap.size ≤ (w.alloc (.cells #[] 5)).heap.size) := Lib.hid (by simp)
  have hl0 : ([] : List UInt8).length + b.length ≤ 140737488355328 := by simpa using hl
  clear hb hl
  cases p with
  | none =>
    obtain rfl := hsl.2 rfl
    obtain rfl := Nat.le_zero.1 hsl.1
    have hb0 := List.eq_nil_of_length_eq_zero hn.symm
    have hnil := fun w' => Lib.run_eql_slice_nil (P := Tryz.prog) w' 26 5 none 0 0 0 0 Tryz.underlying26
    clear hn hsl
    go_enter Tryz.func47, Tryz.ntmps47
    go_wp2
    go_ret
    exact ⟨_, rfl, by rw [hb0]; exact World.ownsRow_nil _ _ _ _, Below.refl _ _⟩
  | some ad =>
    have HN := Lib.hid hn
    have hnil := fun w' => Lib.run_eql_slice_nil (P := Tryz.prog) w' 26 5 (some ad) n c 0 0 Tryz.underlying26
    clear hsl hn
    go_enter Tryz.func47, Tryz.ntmps47
    go_wp2_with (at_builtin; refine wpList_append_bytes rfl _ _ rfl w.heap.size _ [] rfl HO.out (some ad) b n c HN.out rfl HB.out hl0 HS.out ?_; intro v w' hv hA)
    go_ret
    exact ⟨v, rfl, hv, ((Below.refl w.heap.size w).alloc (Nat.le_refl _) _).trans (hA.below (own_ge HO.out) HS.out)⟩
end Go.Proofs.YtpciggnanlflkaaGreatDoor.Ad
