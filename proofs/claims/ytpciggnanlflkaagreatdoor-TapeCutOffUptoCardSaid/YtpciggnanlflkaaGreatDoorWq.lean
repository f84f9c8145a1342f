/- The tape's reader: its states, plain and in memory; contract of take. Conditions: none beyond those that each theorem states. -/
import Derived.Test.YtpciggnanlflkaaGreatDoorWp
namespace Go.Proofs.YtpciggnanlflkaaGreatDoor.Ad
set_option linter.unusedVariables false
set_option linter.unusedSimpArgs false
open Go.RowKit Go.Maps W
/-- What take hands out and leaves. -/
def takeS (l : List UInt8) (e : Int) (n : Nat) : List UInt8 × List UInt8 × Int :=
  if e ≠ 0 then ([], l, e) else if l.length < n then ([], l, 20) else (l.take n, l.drop n, 0)
/-- A reader in block b: the rest and the error. -/
def Rdr (w : World) (b : Nat) (l : List UInt8) (e : Int) : Prop :=
  ∃ p c, Blk w b 81 #[.slice p l.length c, .int .i64 e] ∧ BAt w p l ∧ SlOk p l.length c ∧ (∀ a, p = some a → ∃ g o, a = ⟨g, o, none⟩ ∧ g < b)
theorem Rdr.later {w w' : World} {b : Nat} {l : List UInt8} {e : Int} (h : Rdr w b l e) (hb : Below w.heap.size w w') : Rdr w' b l e := by
  obtain ⟨p, c, h1, h2, h3, h4⟩ := h
  exact ⟨p, c, h1.later hb h1.lt, h2.later hb, h3, h4⟩
theorem BAt.fr {S : Nat → Prop} {w w' : World} {p : Option Go.Addr} {l : List UInt8} (h : BAt w p l) (hf : Fr S w w') (hS : ∀ a, p = some a → ¬ S a.block) : BAt w' p l := by
  rcases h with h | ⟨g, o, h1, h2, h3⟩
  · exact .inl h
  · exact .inr ⟨g, o, h1, Nat.lt_of_lt_of_le h2 hf.size, fun i hi => hf.cell (h3 i hi) (by have := hS _ h1; exact this)⟩
theorem BAt.drop {w : World} {g o : Nat} {l : List UInt8} (h : BAt w (some ⟨g, o, none⟩) l) (n : Nat) : BAt w (some ⟨g, o + n, none⟩) (l.drop n) := by
  rcases h with rfl | ⟨g', o', e, hg, hb⟩
  · exact .inl (by simp)
  · injection e with e; injection e with e1 e2; subst e1; subst e2
    refine .inr ⟨g, o + n, rfl, hg, fun i hi => ?_⟩
    rw [S_size, List.length_drop] at hi
    have h1 := hb (n + i) (by rw [S_size]; omega)
    rw [show o + n + i = o + (n + i) by omega, h1]
    show some (Value.int .u8 ((l[n + i]'(by omega)).toNat : Int)) = some (.int .u8 (((l.drop n)[i]'(by rw [List.length_drop]; omega)).toNat : Int))
    rw [List.getElem_drop]
set_option maxRecDepth 100000 in
set_option maxHeartbeats 4000000 in
theorem take_calls (b : Nat) (l : List UInt8) (e : Int) (n : Nat) (hn : n ≤ 4294967296) (hl : l.length ≤ 140737488355328) (w : World) (h : Rdr w b l e) : Calls Tryz.prog 45 #[.pointer (some ⟨b, 0, none⟩), .int .i64 n] w fun ex w' =>
    ∃ p c, ex = .returned (.slice p (takeS l e n).1.length c) ∧ BAt w' p (takeS l e n).1 ∧ SlOk p (takeS l e n).1.length c ∧ Rdr w' b (takeS l e n).2.1 (takeS l e n).2.2 ∧ Fr (fun k => k = b) w w' := by
  obtain ⟨p, c, hb, hat, hsl, hlt⟩ := h
  have HB := Lib.hid hb
  have HAT := Lib.hid hat
  have HSL := Lib.hid hsl
  have HLT := Lib.hid hlt
  obtain ⟨ln, hln⟩ : ∃ k, l.length = k := ⟨_, rfl⟩
  have HLN := Lib.hid hln
  have c0 : w.cell? ⟨b, 0, none⟩ = some (.slice p ln c) := by rw [← hln]; exact hb.cell _
  have c1 : w.cell? ⟨b, 1, none⟩ = some (.int .i64 e) := hb.cell _
  have f0 : w.frozen? ⟨b, 0, none⟩ = false := hb.frozen _
  have f1 : w.frozen? ⟨b, 1, none⟩ = false := hb.frozen _
  rw [hln] at hl HSL
  have hc1 := HSL.out.1
  clear hb hat hsl hlt hln
  by_cases he : e = 0
  · subst he
    by_cases hs : ln < n
    · have HV : Hid (takeS l 0 n = ([], l, 20)) := Lib.hid (by unfold takeS; rw [if_neg (by simp), if_pos (by rw [HLN.out]; exact hs)])
      have e1 : decide ((ln : Int) < (n : Int)) = true := decide_eq_true (by omega)
      have e1' : decide (ln < n) = true := decide_eq_true hs
      clear hs
      go_enter Tryz.func45, Tryz.ntmps45
      go_wp2
      go_ret
      have hf : Fr (fun k => k = b) w (w.setCell ⟨b, 1, none⟩ (.int .i64 20)) := fr_set
      refine ⟨none, 0, by rw [HV.out]; rfl, .inl (by rw [HV.out]), ⟨by rw [HV.out]; exact Nat.le_refl _, fun _ => rfl⟩, ?_, hf⟩
      rw [HV.out]
      exact ⟨p, c, by rw [HLN.out]; have := HB.out.set_ 1 (.int .i64 20); rw [HLN.out] at this; exact this, HAT.out.fr hf (fun a ha e => by obtain ⟨g, o, rfl, h1⟩ := HLT.out a ha; simp only at e; omega), by rw [HLN.out]; exact HSL.out, HLT.out⟩
    · have HV : Hid (takeS l 0 n = (l.take n, l.drop n, 0)) := Lib.hid (by unfold takeS; rw [if_neg (by simp), if_neg (by rw [HLN.out]; exact hs)])
      have e1 : decide ((ln : Int) < (n : Int)) = false := decide_eq_false (by omega)
      have e1' : decide (ln < n) = false := decide_eq_false hs
      have hle : n ≤ ln := by omega
      have hnc : n ≤ c := by omega
      have HTL : Hid ((l.take n).length = n) := Lib.hid (by rw [List.length_take, HLN.out]; omega)
      have HDL : Hid ((l.drop n).length = ln - n) := Lib.hid (by rw [List.length_drop, HLN.out])
      clear hs
      cases p with
      | none =>
        obtain rfl : c = 0 := HSL.out.2 rfl
        obtain rfl : ln = 0 := by omega
        obtain rfl : n = 0 := by omega
        obtain rfl := List.eq_nil_of_length_eq_zero HLN.out
        go_enter Tryz.func45, Tryz.ntmps45
        go_wp2
        go_ret
        have hf : Fr (fun k => k = b) w (w.setCell ⟨b, 0, none⟩ (.slice none 0 0)) := fr_set
        exact ⟨none, 0, rfl, .inl rfl, ⟨Nat.le_refl _, fun _ => rfl⟩, ⟨none, 0, HB.out.set_ 0 (.slice none 0 0), .inl rfl, ⟨Nat.le_refl _, fun _ => rfl⟩, fun a ha => by cases ha⟩, hf⟩
      | some a =>
        obtain ⟨g, o, rfl, hgb⟩ := HLT.out a rfl
        by_cases hcc : n = c
        · obtain rfl : c = n := hcc.symm
          obtain rfl : ln = c := by have := HSL.out.1; omega
          have HZ : Hid (l.drop ln = []) := Lib.hid (List.drop_eq_nil_of_le (by rw [HLN.out]; exact Nat.le_refl _))
          clear hle hnc
          go_enter Tryz.func45, Tryz.ntmps45
          go_wp2
          go_ret
          have hf : Fr (fun k => k = b) w (w.setCell ⟨b, 0, none⟩ (.slice (some ⟨g, o, none⟩) 0 0)) := fr_set
          have hat := HAT.out.fr hf (fun a ha e => by injection ha with ha; subst ha; simp only at e; omega)
          rw [HV.out]
          simp only [HZ.out]
          exact ⟨some ⟨g, o, none⟩, ln, by rw [HTL.out]; rfl, hat.take ln, ⟨by rw [HTL.out]; exact Nat.le_refl _, fun h => by cases h⟩, ⟨some ⟨g, o, none⟩, 0, HB.out.set_ 0 _, .inl rfl, ⟨Nat.le_refl _, fun h => by cases h⟩, fun a ha => ⟨g, o, by injection ha with ha; exact ha.symm, hgb⟩⟩, hf⟩
        · go_enter Tryz.func45, Tryz.ntmps45
          go_wp2
          go_ret
          have hf : Fr (fun k => k = b) w (w.setCell ⟨b, 0, none⟩ (.slice (some ⟨g, o + n, none⟩) (ln - n) (c - n))) := fr_set
          have hat := HAT.out.fr hf (fun a ha e => by injection ha with ha; subst ha; simp only at e; omega)
          rw [HV.out]
          exact ⟨some ⟨g, o, none⟩, c, by rw [HTL.out]; rfl, hat.take n, ⟨by rw [HTL.out]; exact hnc, fun h => by cases h⟩, ⟨some ⟨g, o + n, none⟩, c - n, by rw [HDL.out]; exact HB.out.set_ 0 _, hat.drop n, ⟨by rw [HDL.out]; have := HSL.out.1; omega, fun h => by cases h⟩, fun a ha => ⟨g, o + n, by injection ha with ha; exact ha.symm, hgb⟩⟩, hf⟩
  · have HV : Hid (takeS l e n = ([], l, e)) := Lib.hid (by unfold takeS; rw [if_pos he])
    have e1 : (e == 0) = false := beq_eq_false_iff_ne.2 he
    have e2 : (e != 0) = true := bne_iff_ne.2 he
    clear he
    go_enter Tryz.func45, Tryz.ntmps45
    go_wp2
    go_ret
    refine ⟨none, 0, by rw [HV.out]; rfl, .inl (by rw [HV.out]), ⟨by rw [HV.out]; exact Nat.le_refl _, fun _ => rfl⟩, ?_, Fr.refl _ _⟩
    rw [HV.out]
    exact ⟨p, c, HB.out, HAT.out, by rw [HLN.out]; exact HSL.out, HLT.out⟩
end Go.Proofs.YtpciggnanlflkaaGreatDoor.Ad
