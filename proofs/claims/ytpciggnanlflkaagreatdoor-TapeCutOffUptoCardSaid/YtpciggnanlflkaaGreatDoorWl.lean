/- Single operations of a region that draws its order. Conditions: none beyond those that each theorem states. -/
import Derived.Test.YtpciggnanlflkaaGreatDoorWk
import Derived.Great.BuildSlice
namespace Go.Proofs.YtpciggnanlflkaaGreatDoor.Ad
set_option linter.unusedVariables false
set_option linter.unusedSimpArgs false
open Go.RowKit Go.Maps W
theorem anyT_named {P : Program} {ops : Array Oper} {Q : Exit → Act → World → Prop} {md : Region.Mode} {S : World → Prop} {late : Nat → Bool} {n : Nat} {b : Array Bool} {a : Act} {w W0 : World} (h0 : Below W0.heap.size W0 w) (h : ∀ W, Below W0.heap.size W0 W → wpAnyT P md ops Q S late n b a W) : wpAnyT P md ops Q S late n b a w := h w h0
theorem wp_append_two {P : Program} {w : World} {o : Oper} {a : Act} {K : Act → World → Prop} {Q : Exit → Act → World → Prop} (s x : Operand) (t : TypeId)
    (ho : o.op = .call { callee := .builtin .append, args := #[s, x], argTypes := #[t, t] })
    (e : TypeId) (i : TypeInfo) (z : Value) (size bytes : Nat) (ht : P.underlying t = some (.slice e)) (hi : P.info? e = some i) (hz : i.zero = some z)
    (hsize : i.size = size) (hby : i.bytes = bytes) (hzs : z.cells.size = size) (hsz : 0 < size)
    (B : Nat) (v : Value) (n : Nat) (xs : List Value) (hs : a.eval s = v) (hown : w.ownsRow B e size v n xs)
    (ad : Go.Addr) (m c : Nat) (news : List Value) (hx : a.eval x = .slice (some ad) m c) (hl : news.length = m * size) (hnews : ∀ j u, news[j]? = some u → w.cell? (ad.add j) = some u) (h1 : ∀ u ∈ news, u.oneCell' = true)
    (hm : 0 < m) (h63 : n + m ≤ maxLen) (hbytes : (n + m) * bytes ≤ 140737488355328) (hB : B ≤ w.heap.size)
    (h : ∀ g cap w', w'.ownsRow B e size (.slice (some ⟨g, 0, none⟩) (n + m) cap) (n + m) (xs ++ news) → ((v.ownBlock = some g ∧ w.grownBy w' (some g)) ∨ (g = w.heap.size ∧ w.grownBy w' none)) → K (a.put o.dst (.slice (some ⟨g, 0, none⟩) (n + m) cap)) w') : o.wp P a w K Q := by
  obtain ⟨g, cap, w', hr, h2, h3, h4⟩ := append_two (P := P) w t o.type e i z size bytes ht hi hz hsize hby hzs hsz B v n xs hown ad m c news hl hnews h1 hm h63 hbytes hB
  unfold Oper.wp execOp
  simp only [ho, resolve, invoke, builtin, Sem.run_bind, Sem.run_pure, Result.andThen_ok, List.map_toArray, List.map_cons, List.map_nil, hs, hx, hr]
  exact h g cap w' h2 h3
theorem fill_rec (tk nd lg : Int) (ou : Bool) (p : Option Go.Addr) (n c : Nat) : Instr.fill (fun i => some (i * 5, 5)) ((Array.range (1 * 5)).map ((Value.agg #[.int .i64 0, .int .i64 0, .bool false, .int .i64 0, .slice none 0 0]).cells[· % (Value.agg #[.int .i64 0, .int .i64 0, .bool false, .int .i64 0, .slice none 0 0]).cells.size]!)) [(0, .agg #[.int .i64 tk, .int .i64 nd, .bool ou, .int .i64 lg, .slice p n c])] = some #[.int .i64 tk, .int .i64 nd, .bool ou, .int .i64 lg, .slice p n c] := by kernel_rfl
set_option maxRecDepth 100000 in
theorem wp_slice_rec {o : Oper} {a : Act} {w : World} {K : Act → World → Prop} {Q : Exit → Act → World → Prop} (x : Operand) (ho : o.op = .buildSlice 22 1 #[(0, x)])
    (tk nd lg : Int) (ou : Bool) (p : Option Go.Addr) (n c : Nat) (hx : a.eval x = .agg #[.int .i64 tk, .int .i64 nd, .bool ou, .int .i64 lg, .slice p n c])
    (h : K (a.put o.dst (.slice (some ⟨w.heap.size, 0, none⟩) 1 1)) (w.alloc (.cells #[.int .i64 tk, .int .i64 nd, .bool ou, .int .i64 lg, .slice p n c] 48))) : o.wp Tryz.prog a w K Q := by
  obtain ⟨i0, hi, hz0, hz1, hz2⟩ := info_parts rec_info
  refine wp_buildSlice 22 48 1 _ ho #[.int .i64 tk, .int .i64 nd, .bool ou, .int .i64 lg, .slice p n c] i0 _ Tryz.underlying22 hi hz0 (by rw [hz1]; omega) (by rw [hz1]; omega) ?_ h
  rw [hz1]
  have e : (Array.map (fun (x : Nat × Operand) => match x with | (i, x) => (i, a.eval x)) #[(0, x)]).toList = [(0, .agg #[.int .i64 tk, .int .i64 nd, .bool ou, .int .i64 lg, .slice p n c])] := by simp [hx]
  have := fill_rec tk nd lg ou p n c
  rw [← e] at this
  exact this
set_option maxRecDepth 100000 in
theorem wp_store_slice {o : Oper} {a : Act} {w : World} {K : Act → World → Prop} {Q : Exit → Act → World → Prop} (x y : Operand) (ho : o.op = .store 22 x y) (b j : Nat) (p : Option Go.Addr) (n c : Nat) (hx : a.eval x = .pointer (some ⟨b, j, none⟩)) (hy : a.eval y = .slice p n c)
    (u : Value) (hc : w.cell? ⟨b, j, none⟩ = some u) (hf : w.frozen? ⟨b, j, none⟩ = false) (h : K (a.put o.dst undef) (w.setCell ⟨b, j, none⟩ (.slice p n c))) : o.wp Tryz.prog a w K Q := by
  unfold Oper.wp execOp
  simp only [ho, hx, hy]
  go_simp
  exact h
end Go.Proofs.YtpciggnanlflkaaGreatDoor.Ad
