/- Contract of the law's example. Conditions: none beyond those that the theorem states. -/
import Derived.Test.YtpciggnanlflkaaGreatDoorXg
namespace Go.Proofs.YtpciggnanlflkaaGreatDoor.Ad
set_option linter.unusedVariables false
set_option linter.unusedSimpArgs false
open Go.RowKit Go.Maps W
def exB : List UInt8 := [1, 2, 3, 4]
def exT : Tp := ⟨4, [⟨0, 0, true, 6, exB⟩, ⟨0, 2, false, 6, exB⟩, ⟨5, 2, true, 0, []⟩]⟩
theorem own_new (w : World) (B g : Nat) (hg : w.heap.size = g) (hB : B ≤ g) (cs : List Value) (t : TypeId) (n size : Nat) (h : cs.length = n * size) (hn : n ≤ maxLen) : (w.alloc (.cells cs.toArray t)).ownsRow B t size (.slice (some ⟨g, 0, none⟩) n n) n cs := by
  subst hg
  exact ⟨h, .inr ⟨_, n, cs.toArray, rfl, hB, (by show (w.heap.push _)[w.heap.size]? = _; simp), Nat.le_refl _, hn, by simpa using h, by rw [List.take_of_length_le (by simp [h])]⟩⟩
theorem ex_own (W : World) (B g : Nat) (hg : W.heap.size = g) (hB : B ≤ g) : TO (((W.alloc (.cells #[.int .u8 1, .int .u8 2, .int .u8 3, .int .u8 4] 5)).alloc (.cells #[.int .u8 1, .int .u8 2, .int .u8 3, .int .u8 4] 5)).alloc (.cells #[.int .i64 0, .int .i64 0, .bool true, .int .i64 6, .slice (some ⟨g, 0, none⟩) 4 4, .int .i64 0, .int .i64 2, .bool false, .int .i64 6, .slice (some ⟨g + 1, 0, none⟩) 4 4, .int .i64 5, .int .i64 2, .bool true, .int .i64 0, .slice none 0 0] 48)) B
    (.slice (some ⟨g + 1 + 1, 0, none⟩) 3 3) exT.recs [.slice (some ⟨g, 0, none⟩) 4 4, .slice (some ⟨g + 1, 0, none⟩) 4 4, .slice none 0 0] := by
  have h1 := own_new W B g hg hB (Lib.byteCells exB) 5 4 1 rfl (by decide)
  have e2 : (W.alloc (.cells #[.int .u8 1, .int .u8 2, .int .u8 3, .int .u8 4] 5)).heap.size = g + 1 := by simp [hg]
  have h2 := own_new (W.alloc (.cells #[.int .u8 1, .int .u8 2, .int .u8 3, .int .u8 4] 5)) B (g + 1) e2 (by omega) (Lib.byteCells exB) 5 4 1 rfl (by decide)
  have e3 : ((W.alloc (.cells #[.int .u8 1, .int .u8 2, .int .u8 3, .int .u8 4] 5)).alloc (.cells #[.int .u8 1, .int .u8 2, .int .u8 3, .int .u8 4] 5)).heap.size = g + 1 + 1 := by simp [hg]
  have h3 := own_new ((W.alloc (.cells #[.int .u8 1, .int .u8 2, .int .u8 3, .int .u8 4] 5)).alloc (.cells #[.int .u8 1, .int .u8 2, .int .u8 3, .int .u8 4] 5)) B (g + 1 + 1) e3 (by omega) (cellsR exT.recs [.slice (some ⟨g, 0, none⟩) 4 4, .slice (some ⟨g + 1, 0, none⟩) 4 4, .slice none 0 0]) 48 3 5 rfl (by decide)
  have k1 := own_later h1 ((Below.refl _ _).alloc (Nat.le_refl _) (.cells #[.int .u8 1, .int .u8 2, .int .u8 3, .int .u8 4] 5))
  refine ⟨h3, rfl, fun i r d hr hd => ?_, ?_⟩
  · match i, hr, hd with
    | 0, hr, hd =>
      injection hr with hr; injection hd with hd; subst hr; subst hd
      exact own_later k1 ((Below.refl _ _).alloc (Nat.le_refl _) _)
    | 1, hr, hd =>
      injection hr with hr; injection hd with hd; subst hr; subst hd
      exact own_later h2 ((Below.refl _ _).alloc (Nat.le_refl _) _)
    | 2, hr, hd =>
      injection hr with hr; injection hd with hd; subst hr; subst hd
      exact World.ownsRow_nil _ _ _ _
    | i + 3, hr, hd => simp [exT] at hr
  · simp [Dj, Value.ownBlock]
set_option maxRecDepth 100000 in
set_option maxHeartbeats 4000000 in
theorem example_calls (w : World) : Calls Tryz.prog 32 #[] w fun e w' =>
    ∃ v ds, e = .returned (.agg #[.int .i64 4, v]) ∧ TO w' w.heap.size v exT.recs ds ∧ Below w.heap.size w w' := by
  obtain ⟨b0, hb0⟩ : ∃ b, w.heap.size = b := ⟨_, rfl⟩
  have HB0 := Lib.hid hb0
  clear hb0
  go_enter Tryz.func32, Tryz.ntmps32
  go_upto_region 1 with fail
  refine wp_named fun W hW => ?_
  obtain ⟨bk, BW, sW⟩ := box1 hW
  rw [HB0.out] at bk sW ⊢
  clear hW
  have q0 : (((W.alloc (.cells #[.int .u8 1, .int .u8 2, .int .u8 3, .int .u8 4] 5)).alloc (.cells #[.int .u8 1, .int .u8 2, .int .u8 3, .int .u8 4] 5)).alloc (.cells #[.int .i64 0, .int .i64 0, .bool true, .int .i64 6, .slice (some ⟨W.heap.size, 0, none⟩) 4 4, .int .i64 0, .int .i64 2, .bool false, .int .i64 6, .slice (some ⟨W.heap.size + 1, 0, none⟩) 4 4, .int .i64 5, .int .i64 2, .bool true, .int .i64 0, .slice none 0 0] 48)).cell? ⟨b0, 0, none⟩ = some (.int .i64 0) := (((bk.out.alloc _).alloc _).alloc _).cell _
  have q1 : (((W.alloc (.cells #[.int .u8 1, .int .u8 2, .int .u8 3, .int .u8 4] 5)).alloc (.cells #[.int .u8 1, .int .u8 2, .int .u8 3, .int .u8 4] 5)).alloc (.cells #[.int .i64 0, .int .i64 0, .bool true, .int .i64 6, .slice (some ⟨W.heap.size, 0, none⟩) 4 4, .int .i64 0, .int .i64 2, .bool false, .int .i64 6, .slice (some ⟨W.heap.size + 1, 0, none⟩) 4 4, .int .i64 5, .int .i64 2, .bool true, .int .i64 0, .slice none 0 0] 48)).cell? ⟨b0, 1, none⟩ = some (.slice none 0 0) := (((bk.out.alloc _).alloc _).alloc _).cell _
  have g0 : (((W.alloc (.cells #[.int .u8 1, .int .u8 2, .int .u8 3, .int .u8 4] 5)).alloc (.cells #[.int .u8 1, .int .u8 2, .int .u8 3, .int .u8 4] 5)).alloc (.cells #[.int .i64 0, .int .i64 0, .bool true, .int .i64 6, .slice (some ⟨W.heap.size, 0, none⟩) 4 4, .int .i64 0, .int .i64 2, .bool false, .int .i64 6, .slice (some ⟨W.heap.size + 1, 0, none⟩) 4 4, .int .i64 5, .int .i64 2, .bool true, .int .i64 0, .slice none 0 0] 48)).frozen? ⟨b0, 0, none⟩ = false := (((bk.out.alloc _).alloc _).alloc _).frozen _
  have g1 : (((W.alloc (.cells #[.int .u8 1, .int .u8 2, .int .u8 3, .int .u8 4] 5)).alloc (.cells #[.int .u8 1, .int .u8 2, .int .u8 3, .int .u8 4] 5)).alloc (.cells #[.int .i64 0, .int .i64 0, .bool true, .int .i64 6, .slice (some ⟨W.heap.size, 0, none⟩) 4 4, .int .i64 0, .int .i64 2, .bool false, .int .i64 6, .slice (some ⟨W.heap.size + 1, 0, none⟩) 4 4, .int .i64 5, .int .i64 2, .bool true, .int .i64 0, .slice none 0 0] 48)).frozen? ⟨b0, 1, none⟩ = false := (((bk.out.alloc _).alloc _).alloc _).frozen _
  go_wp2
  have hT := ex_own W (b0 + 1) W.heap.size rfl (by have := sW.out; omega)
  have b4 := ((bk.out.alloc (.cells #[.int .u8 1, .int .u8 2, .int .u8 3, .int .u8 4] 5)).alloc (.cells #[.int .u8 1, .int .u8 2, .int .u8 3, .int .u8 4] 5)).alloc (.cells #[.int .i64 0, .int .i64 0, .bool true, .int .i64 6, .slice (some ⟨W.heap.size, 0, none⟩) 4 4, .int .i64 0, .int .i64 2, .bool false, .int .i64 6, .slice (some ⟨W.heap.size + 1, 0, none⟩) 4 4, .int .i64 5, .int .i64 2, .bool true, .int .i64 0, .slice none 0 0] 48)
  have hB4 := ((BW.out.alloc BW.out.size (.cells #[.int .u8 1, .int .u8 2, .int .u8 3, .int .u8 4] 5)).alloc (by have := BW.out.size; simp; omega) (.cells #[.int .u8 1, .int .u8 2, .int .u8 3, .int .u8 4] 5)).alloc (by have := BW.out.size; simp; omega) (.cells #[.int .i64 0, .int .i64 0, .bool true, .int .i64 6, .slice (some ⟨W.heap.size, 0, none⟩) 4 4, .int .i64 0, .int .i64 2, .bool false, .int .i64 6, .slice (some ⟨W.heap.size + 1, 0, none⟩) 4 4, .int .i64 5, .int .i64 2, .bool true, .int .i64 0, .slice none 0 0] 48)
  obtain ⟨z1, z2, z3⟩ := tape_fin (w := w) 4 b4 hT (by omega) hB4 (by rw [HB0.out]; omega) (by rw [HB0.out]; omega)
  exact bodyPost_ret (v := .agg #[.int .i64 4, .slice (some ⟨W.heap.size + 1 + 1, 0, none⟩) 3 3]) (by exact results_cell_row (fn := Tryz.f32) rfl _ _ b0 24 _ (0, 0) _ rfl z1 Tryz.underlying24 rfl tape_size) rfl ⟨_, _, rfl, z2, z3⟩
end Go.Proofs.YtpciggnanlflkaaGreatDoor.Ad
