/- Contract of tape.Build. Conditions: none beyond those that the theorem states. -/
import Derived.Test.YtpciggnanlflkaaGreatDoorWc
import Derived.Lib.SlBytesConst
import Derived.Deep.Upon
namespace Go.Proofs.YtpciggnanlflkaaGreatDoor.Ad
set_option linter.unusedVariables false
set_option linter.unusedSimpArgs false
open Go.RowKit Go.Maps W
theorem cell_new (w : World) (cs : Array Value) (t : TypeId) (fr : Nat × Nat) (j : Nat) : (w.alloc (.cells cs t fr)).cell? ⟨w.heap.size, j, none⟩ = cs[j]? := cell_of_row _ _ _ _ _ _ (heap_alloc_new w _)
theorem cell_new_old (w : World) (o : Obj) (cs : Array Value) (t : TypeId) (fr : Nat × Nat) (j : Nat) : ((w.alloc (.cells cs t fr)).alloc o).cell? ⟨w.heap.size, j, none⟩ = cs[j]? := cell_of_row _ _ _ _ _ _ ((heap_alloc_old _ _ (by simp)).trans (heap_alloc_new w _))
/-- An append onto a list that is full and may not be owned: a new block. -/
theorem wpList_append_full {P : Program} {w : World} {ops : Array Oper} {rest : List Oper} {o : Oper} {a : Act} {Q : Exit → Act → World → Prop} (hgd : o.guard = none) (s x : Operand) (t : TypeId)
    (ho : o.op = .call { callee := .builtin .append, args := #[s, x], argTypes := #[t, t] })
    (e : TypeId) (i : TypeInfo) (z : Value) (size bytes : Nat) (ht : P.underlying t = some (.slice e)) (hi : P.info? e = some i) (hz : i.zero = some z)
    (hsize : i.size = size) (hby : i.bytes = bytes) (hzs : z.cells.size = size)
    (B : Nat) (b0 : Go.Addr) (n : Nat) (olds : List Value) (hs : a.eval s = .slice (some b0) n n) (hlo : olds.length = n * size) (holds : ∀ j v, olds[j]? = some v → w.cell? (b0.add j) = some v)
    (ad : Go.Addr) (m c : Nat) (news : List Value) (hx : a.eval x = .slice (some ad) m c) (hl : news.length = m * size) (hnews : ∀ j u, news[j]? = some u → w.cell? (ad.add j) = some u)
    (hm : 0 < m) (h63 : n + m ≤ maxLen) (hbytes : (n + m) * bytes ≤ 140737488355328) (hB : B ≤ w.heap.size)
    (h : ∀ cap w', w'.ownsRow B e size (.slice (some ⟨w.heap.size, 0, none⟩) (n + m) cap) (n + m) (olds ++ news) → Below w.heap.size w w' → wpList P ops Q rest (a.put o.dst (.slice (some ⟨w.heap.size, 0, none⟩) (n + m) cap)) w') : wpList P ops Q (o :: rest) a w :=
  wpList_plain hgd fun K hK => by
    subst hsize
    subst hby
    have hsmall : n + m ≤ 9223372036854775807 := by simp only [maxLen] at h63; omega
    have hr := run_append_grow (P := P) w t o.type e i z ht hi hz b0 n n olds hlo holds ad m c news hl hnews (by omega) (by omega) (growslice_fits (by omega) hbytes)
    have hlen : (olds ++ news).length = (n + m) * i.size := by rw [List.length_append, hlo, hl, Nat.add_mul]
    have hge := grownCap_ge w (n + m) n e
    have hcm : grownCap w (n + m) n e ≤ maxLen := grownCap_le_maxLen w (n + m) n e h63
    unfold Oper.wp execOp
    simp only [ho, resolve, invoke, builtin, Sem.run_bind, Sem.run_pure, Result.andThen_ok, List.map_toArray, List.map_cons, List.map_nil, hs, hx, hr]
    refine hK _ _ (h _ _ ⟨hlen, .inr ⟨w.heap.size, _, _, rfl, hB, heap_alloc_new w.drew _, hge, hcm, ?_, ?_⟩⟩ ((Below.refl _ w).drew.alloc (Nat.le_refl _) _))
    · simp only [Array.size_append, List.size_toArray, size_zeroCells, hzs, hlo, hl, ← Nat.add_mul]
      congr 1
      omega
    · simp only [Array.toList_append, List.append_assoc]
      rw [← List.append_assoc, ← hlen]
      exact List.take_left
/-- Bytes that can be read are what an append takes. -/
theorem src_bytes {w : World} {p : Option Go.Addr} {m : List UInt8} (h : BAt w p m) (n c : Nat) (hn : n = m.length) : Src Tryz.prog 1 26 (.slice p n c) n (Lib.byteCells m) w := by
  subst hn
  have one : ∀ u ∈ Lib.byteCells m, u.oneCell' = true := fun u hu => by
    simp only [Lib.byteCells, List.mem_map] at hu
    obtain ⟨x, _, rfl⟩ := hu; rfl
  rcases h with rfl | ⟨g, o, rfl, hg, hb⟩
  · cases p with
    | none => exact Src.ofNil w Tryz.underlying26 c
    | some a => exact Src.ofSlice w Tryz.underlying26 a 0 c [] rfl (fun j u hu => by simp at hu) (fun u hu => by simp at hu)
  · refine Src.ofSlice w Tryz.underlying26 ⟨g, o, none⟩ m.length c _ (by simp [Lib.byteCells]) (fun j u hu => ?_) one
    have hj : j < m.length := by
      have := (List.getElem?_eq_some_iff.1 hu).1
      simpa [Lib.byteCells] using this
    rw [Addr.add_lit, hb j (by rw [S_size]; exact hj)]
    rw [← hu]
    simp [Lib.byteCells, S, hj]
    rfl
theorem ap_append (w : World) (ty : TypeId) (B : Nat) (v : Value) (l : List UInt8) (hown : w.ownsRow B 5 1 v l.length (Lib.byteCells l)) (p : Option Go.Addr) (m : List UInt8) (n c : Nat) (hn : n = m.length) (hb : BAt w p m)
    (hl : l.length + m.length ≤ 140737488355328) (hB : B ≤ w.heap.size) :
    ∃ v' w', (Builtin.append_ #[26, 26] ty #[v, .slice p n c]).run Tryz.prog w = .ok v' w' ∧ w'.ownsRow B 5 1 v' (l ++ m).length (Lib.byteCells (l ++ m)) ∧ Ap v w v' w' := by
  subst hn
  obtain ⟨i0, hi, hz0, hz1, hz2⟩ := info_parts (show (Tryz.prog.info? 5).map (fun i => (i.zero, i.size, i.bytes)) = some (some (.int .u8 0), 1, 1) by kernel_rfl)
  rcases hb with rfl | ⟨g, o, rfl, hg, hb⟩
  · have hsl : ∃ p' n' c', v = .slice p' n' c' ∧ n' ≤ c' := by
      rcases hown.2 with ⟨h1, h2⟩ | ⟨g, cap, cur, e, hB, hg, hnc, r⟩
      · exact ⟨none, 0, 0, h1, Nat.le_refl _⟩
      · exact ⟨_, _, _, e, hnc⟩
    obtain ⟨p', n', c', rfl, hle⟩ := hsl
    have hs := src_bytes (w := w) (p := p) (m := []) (.inl rfl) 0 c rfl
    rw [← hz1] at hs
    refine ⟨_, w, run_append_nothing (P := Tryz.prog) w 26 26 ty 5 i0 Tryz.underlying26 hi p' n' c' hle _ hs, by rw [List.append_nil]; exact hown, Ap.refl _ _⟩
  · rcases Nat.eq_zero_or_pos m.length with h0 | h0
    · obtain rfl := List.eq_nil_of_length_eq_zero h0
      have hsl : ∃ p' n' c', v = .slice p' n' c' ∧ n' ≤ c' := by
        rcases hown.2 with ⟨h1, h2⟩ | ⟨g, cap, cur, e, hB, hg, hnc, r⟩
        · exact ⟨none, 0, 0, h1, Nat.le_refl _⟩
        · exact ⟨_, _, _, e, hnc⟩
      obtain ⟨p', n', c', rfl, hle⟩ := hsl
      have hs := src_bytes (w := w) (p := some ⟨g, o, none⟩) (m := []) (.inl rfl) 0 c rfl
      rw [← hz1] at hs
      refine ⟨_, w, run_append_nothing (P := Tryz.prog) w 26 26 ty 5 i0 Tryz.underlying26 hi p' n' c' hle _ hs, by rw [List.append_nil]; exact hown, Ap.refl _ _⟩
    · obtain ⟨g1, cap, w', hr, ho, hgr, _⟩ := append_two (P := Tryz.prog) w 26 ty 5 i0 _ 1 1 Tryz.underlying26 hi hz0 hz1 hz2 (by rfl) (by omega) B v l.length _ hown ⟨g, o, none⟩ m.length c (Lib.byteCells m) (by simp [Lib.byteCells])
        (fun j u hu => by
          have hj : j < m.length := by
            have := (List.getElem?_eq_some_iff.1 hu).1
            simpa [Lib.byteCells] using this
          rw [Addr.add_lit, hb j (by rw [S_size]; exact hj), ← hu]
          simp [Lib.byteCells, S, hj]
          rfl)
        (fun u hu => by
          simp only [Lib.byteCells, List.mem_map] at hu
          obtain ⟨x, _, rfl⟩ := hu; rfl) h0 (by unfold maxLen; omega) (by omega) hB
      exact ⟨_, w', hr, by rw [List.length_append, cells_app]; exact ho, Ap.row hgr⟩
theorem wpList_append_bytes {w : World} {ops : Array Oper} {rest : List Oper} {o : Oper} {a : Act} {Q : Exit → Act → World → Prop} (hgd : o.guard = none) (s x : Operand)
    (ho : o.op = .call { callee := .builtin .append, args := #[s, x], argTypes := #[26, 26] })
    (B : Nat) (v : Value) (l : List UInt8) (hs : a.eval s = v) (hown : w.ownsRow B 5 1 v l.length (Lib.byteCells l)) (p : Option Go.Addr) (m : List UInt8) (n c : Nat) (hn : n = m.length) (hx : a.eval x = .slice p n c) (hb : BAt w p m)
    (hl : l.length + m.length ≤ 140737488355328) (hB : B ≤ w.heap.size)
    (h : ∀ v' w', w'.ownsRow B 5 1 v' (l ++ m).length (Lib.byteCells (l ++ m)) → Ap v w v' w' → wpList Tryz.prog ops Q rest (a.put o.dst v') w') : wpList Tryz.prog ops Q (o :: rest) a w :=
  wpList_plain hgd fun K hK => by
    obtain ⟨v', w', hr, h2, h3⟩ := ap_append w o.type B v l hown p m n c hn hb hl hB
    unfold Oper.wp execOp
    simp only [ho, resolve, invoke, builtin, Sem.run_bind, Sem.run_pure, Result.andThen_ok, List.map_toArray, List.map_cons, List.map_nil, hs, hx, hr]
    exact hK _ _ (h v' w' h2 h3)
end Go.Proofs.YtpciggnanlflkaaGreatDoor.Ad
