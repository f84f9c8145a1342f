/- Memory, regions and texts: what names no type of the chapter. Conditions: none beyond those that each theorem states. -/
import Derived.Test.YtpciggnanlflkaaGreatDoorProg
import Derived.Test.YtpciggnanlflkaaGreatDoorBq
import Derived.Lib.SlBytesRow
import Derived.Deep.MidRow
import Derived.Deep.AppendLies
import Derived.Laws.OwnMore
import Derived.Laws.Rows
import Derived.Great.BuildSlice
import Derived.Shelf.Abstract
namespace Go.Proofs.YtpciggnanlflkaaGreatDoor.Ad
set_option linter.unusedVariables false
set_option linter.unusedSimpArgs false
open Go.RowKit Go.Maps W
theorem box1 {w W : World} {t : TypeId} {cs : Array Value} (h : W = w.alloc (.cells cs t)) : Hid (Blk W w.heap.size t cs) ∧ Hid (Below w.heap.size w W) ∧ Hid (W.heap.size = w.heap.size + 1) := by
  subst h; exact ⟨Lib.hid (Blk.new _ _ _), Lib.hid ((Below.refl _ _).alloc (Nat.le_refl _) _), Lib.hid (by simp)⟩
theorem box2 {w W : World} {t t' : TypeId} {cs cs' : Array Value} (h : W = (w.alloc (.cells cs t)).alloc (.cells cs' t')) : Hid (Blk W w.heap.size t cs) ∧ Hid (Blk W (w.heap.size + 1) t' cs') ∧ Hid (Below w.heap.size w W) ∧ Hid (W.heap.size = w.heap.size + 2) := by
  subst h; exact ⟨Lib.hid ((Blk.new _ _ _).alloc _), Lib.hid (by have := Blk.new (w.alloc (.cells cs t)) t' cs'; simpa using this), Lib.hid (((Below.refl _ _).alloc (Nat.le_refl _) _).alloc (by simp) _), Lib.hid (by simp)⟩
/-- What a later world keeps. -/
theorem keep {w W w' : World} (h : Hid (Below w.heap.size w W)) (hb : Below W.heap.size W w') : Hid (Below w.heap.size w w') := Lib.hid (h.out.trans (hb.mono h.out.size))
/-- A struct's load at any place; whatever guards it. -/
theorem wpList_load_at {P : Program} {ops : Array Oper} {rest : List Oper} {o : Oper} {a : Act} {w : World} {Q : Exit → Act → World → Prop} (hw : Region.wanted o (yielded ops a.tmps) = true) (ty : TypeId) (x : Operand) (ho : o.op = .load ty x)
    (g k : Nat) (vs : List Value) (d : TypeDesc) (hx : a.eval x = .pointer (some ⟨g, k, none⟩)) (hr : w.rangeAt g k vs) (hu : P.underlying ty = some d) (hd : d.isRow = true)
    (hi : (P.info? ty).map (·.size) = some vs.length) (h : wpList P ops Q rest (a.put o.dst (.agg vs.toArray)) w) : wpList P ops Q (o :: rest) a w :=
  BigFrame.wpList_want hw fun _ hK => wp_load_mid ty x ho g k hx vs d hr hu hd hi (hK _ _ h)
/-- A struct built of what is known. -/
theorem wpList_build_as {P : Program} {ops : Array Oper} {rest : List Oper} {o : Oper} {a : Act} {w : World} {Q : Exit → Act → World → Prop} (hg : o.guard = none) (t : TypeId) (parts : Array (Nat × Operand)) (ho : o.op = .build t parts)
    (vs : List (Nat × Value)) (hv : (parts.map fun (i, x) => (i, a.eval x)).toList = vs) (cells : Array Value) (hb : P.built t vs = some cells)
    (h : wpList P ops Q rest (a.put o.dst (.agg cells)) w) : wpList P ops Q (o :: rest) a w := by
  refine wpList_build hg t parts ho ?_ ?_
  · rw [hv, hb]; rfl
  · rw [hv, hb]; exact h
theorem wpList_build2 {P : Program} {ops : Array Oper} {rest : List Oper} {o : Oper} {a : Act} {w : World} {Q : Exit → Act → World → Prop} (hg : o.guard = none) (t : TypeId) (i j : Nat) (x y : Operand) (ho : o.op = .build t #[(i, x), (j, y)])
    (u v : Value) (hx : a.eval x = u) (hy : a.eval y = v) (cells : Array Value) (hb : P.built t [(i, u), (j, v)] = some cells)
    (h : wpList P ops Q rest (a.put o.dst (.agg cells)) w) : wpList P ops Q (o :: rest) a w :=
  wpList_build_as hg t _ ho [(i, u), (j, v)] (by simp [hx, hy]) cells hb h
/-- A struct loaded at any place in a class of later worlds. -/
theorem quiet_at {P : Program} {w : World} {o : Oper} {a : Act} {K : Act → Prop} (ty : TypeId) (x : Operand) (ho : o.op = .load ty x) (g k : Nat) (vs : List Value) (d : TypeDesc)
    (hx : a.eval x = .pointer (some ⟨g, k, none⟩)) (hr : w.rangeAt g k vs) (hu : P.underlying ty = some d) (hd : d.isRow = true)
    (hi : (P.info? ty).map (·.size) = some vs.length) (hk : K (a.put o.dst (.agg vs.toArray))) : o.quiet P a (fun z => ∃ x : Later w, z = x.val) K := by
  refine ⟨.agg vs.toArray, ?_, hk⟩
  rintro _ ⟨z, rfl⟩
  have hr' : z.val.rangeAt g k vs := fun j v hv => Later.cell (hr j v hv) z
  unfold Oper.quietAt execOp
  simp only [ho, hx, Instr.loadAt, Instr.sureAddr, Sem.run_bind, Sem.run_pure, Result.andThen_ok, run_loadVar_mid z.val g k ty vs d hr' hu hd hi]
  exact ⟨rfl, rfl⟩
theorem wpList_build1 {P : Program} {ops : Array Oper} {rest : List Oper} {o : Oper} {a : Act} {w : World} {Q : Exit → Act → World → Prop} (hg : o.guard = none) (t : TypeId) (i : Nat) (x : Operand) (ho : o.op = .build t #[(i, x)])
    (u : Value) (hx : a.eval x = u) (cells : Array Value) (hb : P.built t [(i, u)] = some cells)
    (h : wpList P ops Q rest (a.put o.dst (.agg cells)) w) : wpList P ops Q (o :: rest) a w :=
  wpList_build_as hg t _ ho [(i, u)] (by simp [hx]) cells hb h
theorem wpList_build3 {P : Program} {ops : Array Oper} {rest : List Oper} {o : Oper} {a : Act} {w : World} {Q : Exit → Act → World → Prop} (hg : o.guard = none) (t : TypeId) (i j k : Nat) (x y z : Operand) (ho : o.op = .build t #[(i, x), (j, y), (k, z)])
    (u v s : Value) (hx : a.eval x = u) (hy : a.eval y = v) (hz : a.eval z = s) (cells : Array Value) (hb : P.built t [(i, u), (j, v), (k, s)] = some cells)
    (h : wpList P ops Q rest (a.put o.dst (.agg cells)) w) : wpList P ops Q (o :: rest) a w :=
  wpList_build_as hg t _ ho [(i, u), (j, v), (k, s)] (by simp [hx, hy, hz]) cells hb h
theorem wpList_build4 {P : Program} {ops : Array Oper} {rest : List Oper} {o : Oper} {a : Act} {w : World} {Q : Exit → Act → World → Prop} (hg : o.guard = none) (t : TypeId) (i j k m : Nat) (x y z u : Operand) (ho : o.op = .build t #[(i, x), (j, y), (k, z), (m, u)])
    (v1 v2 v3 v4 : Value) (hx : a.eval x = v1) (hy : a.eval y = v2) (hz : a.eval z = v3) (hu : a.eval u = v4) (cells : Array Value) (hb : P.built t [(i, v1), (j, v2), (k, v3), (m, v4)] = some cells)
    (h : wpList P ops Q rest (a.put o.dst (.agg cells)) w) : wpList P ops Q (o :: rest) a w :=
  wpList_build_as hg t _ ho [(i, v1), (j, v2), (k, v3), (m, v4)] (by simp [hx, hy, hz, hu]) cells hb h
def S (l : List UInt8) : ByteArray := ⟨l.toArray⟩
theorem S_size (l : List UInt8) : (S l).size = l.length := by show l.toArray.size = _; simp
theorem S_list (l : List UInt8) : (S l).data.toList = l := by simp [S]
theorem S_of (s : ByteArray) : S s.data.toList = s := by apply ByteArray.ext; simp [S]
theorem S_app (a b : List UInt8) : S a ++ S b = S (a ++ b) := by
  apply ByteArray.ext
  rw [ByteArray.data_append]
  exact Array.toList_inj.1 (by simp [S])
theorem own_later {w w' : World} {B : Nat} {E : TypeId} {size : Nat} {v : Value} {n : Nat} {xs : List Value} (h : w.ownsRow B E size v n xs) (hb : Below w.heap.size w w') : w'.ownsRow B E size v n xs := by
  refine World.ownsRow.kept (row := none) h ⟨hb.os, hb.tape, hb.output, hb.size, fun k hk _ => hb.block k hk⟩ ?_
  cases hv : v.ownBlock with
  | none => exact .inl rfl
  | some k => exact .inr (by simp)
theorem own_base {w : World} {B B' : Nat} {E : TypeId} {size : Nat} {v : Value} {n : Nat} {xs : List Value} (h : w.ownsRow B E size v n xs) (hb : B' ≤ B) : w.ownsRow B' E size v n xs := by
  rcases h with ⟨h1, h2⟩
  refine ⟨h1, ?_⟩
  rcases h2 with h2 | ⟨g, cap, cur, e, hB, r⟩
  · exact .inl h2
  · exact .inr ⟨g, cap, cur, e, by omega, r⟩
/-- Outside the blocks of S all stands as it stood. -/
structure Fr (S : Nat → Prop) (w w' : World) : Prop where
  os : w'.os = w.os
  tape : w'.tape = w.tape
  output : w'.output = w.output
  size : w.heap.size ≤ w'.heap.size
  block : ∀ k, k < w.heap.size → ¬ S k → w'.heap[k]? = w.heap[k]?
theorem Fr.of {S : Nat → Prop} {w w' : World} (h : Below w.heap.size w w') : Fr S w w' := ⟨h.os, h.tape, h.output, h.size, fun k hk _ => h.block k hk⟩
theorem Fr.refl (S : Nat → Prop) (w : World) : Fr S w w := Fr.of (Below.refl _ _)
theorem Fr.trans {S : Nat → Prop} {w w' w'' : World} (h : Fr S w w') (k : Fr S w' w'') : Fr S w w'' :=
  ⟨k.os.trans h.os, k.tape.trans h.tape, k.output.trans h.output, Nat.le_trans h.size k.size, fun j hj hS => (k.block j (Nat.lt_of_lt_of_le hj h.size) hS).trans (h.block j hj hS)⟩
theorem Fr.mono {S T : Nat → Prop} {w w' : World} (h : Fr S w w') (hS : ∀ k, k < w.heap.size → S k → T k) : Fr T w w' := ⟨h.os, h.tape, h.output, h.size, fun k hk hT => h.block k hk fun hs => hT (hS k hk hs)⟩
theorem Fr.below {S : Nat → Prop} {B : Nat} {w w' : World} (h : Fr S w w') (hB : ∀ k, k < B → ¬ S k) (hw : B ≤ w.heap.size) : Below B w w' := ⟨h.os, h.tape, h.output, h.size, fun k hk => h.block k (Nat.lt_of_lt_of_le hk hw) (hB k hk)⟩
theorem Fr.grown {w w' : World} {row : Option Nat} (h : w.grownBy w' row) : Fr (fun k => row = some k) w w' := ⟨h.os, h.tape, h.output, h.size, fun k hk hS => h.block k hk fun e => hS e.symm⟩
theorem Fr.cell {S : Nat → Prop} {w w' : World} (h : Fr S w w') {a : Go.Addr} {u : Value} (hc : w.cell? a = some u) (hS : ¬ S a.block) : w'.cell? a = some u :=
  (World.cell?_of_block (h.block a.block (World.block_lt_of_cell? w a hc) hS)).trans hc
theorem Fr.range {S : Nat → Prop} {w w' : World} (h : Fr S w w') {g o : Nat} {vs : List Value} (hr : w.rangeAt g o vs) (hS : ¬ S g) : w'.rangeAt g o vs := fun j v hv => h.cell (hr j v hv) hS
theorem Fr.own {S : Nat → Prop} {w w' : World} (h : Fr S w w') {B : Nat} {E : TypeId} {size : Nat} {v : Value} {n : Nat} {xs : List Value} (ho : w.ownsRow B E size v n xs) (hS : ∀ k, v.ownBlock = some k → ¬ S k) : w'.ownsRow B E size v n xs := by
  rcases ho with ⟨h1, h2⟩
  refine ⟨h1, ?_⟩
  rcases h2 with h2 | ⟨g, cap, cur, e, hB, hg, r⟩
  · exact .inl h2
  · exact .inr ⟨g, cap, cur, e, hB, (h.block g (Array.getElem?_eq_some_iff.1 hg).1 (hS g (by rw [e]; rfl))).trans hg, r⟩
theorem Fr.blk {S : Nat → Prop} {w w' : World} (h : Fr S w w') {g : Nat} {t : TypeId} {cs : Array Value} (hb : Blk w g t cs) (hS : ¬ S g) : Blk w' g t cs := (h.block g hb.lt hS).trans hb
theorem fr_set {w : World} {g j : Nat} {u : Value} : Fr (fun k => k = g) w (w.setCell ⟨g, j, none⟩ u) := ⟨rfl, rfl, rfl, by simp [World.setCell], fun k _ hk => heap_setCell_other w ⟨g, j, none⟩ k u hk⟩
theorem fr_sets (g : Nat) : ∀ (vs : List Value) (o : Nat) (w : World), Fr (fun k => k = g) w (w.setCells g o vs)
  | [], _, w => Fr.refl _ w
  | v :: vs, o, w => Fr.trans fr_set (fr_sets g vs (o + 1) _)
/-- Values laid over a list from a place on. -/
def setMany (xs : List Value) (o : Nat) : List Value → List Value
  | [] => xs
  | v :: vs => setMany (xs.set o v) (o + 1) vs
theorem own_sets {B : Nat} {E : TypeId} {size g n cap : Nat} : ∀ (vs : List Value) (o : Nat) (xs : List Value) (w : World), w.ownsRow B E size (.slice (some ⟨g, 0, none⟩) n cap) n xs → (w.setCells g o vs).ownsRow B E size (.slice (some ⟨g, 0, none⟩) n cap) n (setMany xs o vs)
  | [], _, _, _, h => h
  | v :: vs, o, xs, w, h => own_sets vs (o + 1) (xs.set o v) _ (h.stored o v).1
theorem setMany_mid : ∀ (vs A M Z : List Value), M.length = vs.length → setMany (A ++ (M ++ Z)) A.length vs = A ++ (vs ++ Z)
  | [], A, M, Z, h => by obtain rfl := List.eq_nil_of_length_eq_zero h; rfl
  | v :: vs, A, [], Z, h => by cases h
  | v :: vs, A, m :: M, Z, h => by
    have ih := setMany_mid vs (A ++ [v]) M Z (by simpa using h)
    rw [setMany, List.set_append_right _ _ (Nat.le_refl _), Nat.sub_self]
    simp only [List.length_append, List.length_singleton, List.append_assoc, List.singleton_append] at ih
    simpa using ih
/-- What an append onto an own row leaves: the row itself grown in place, or a new block and all else as it was. -/
theorem append_two {P : Program} (w : World) (t ty e : TypeId) (i : TypeInfo) (z : Value) (size bytes : Nat) (ht : P.underlying t = some (.slice e)) (hi : P.info? e = some i) (hz : i.zero = some z)
    (hsize : i.size = size) (hby : i.bytes = bytes) (hzs : z.cells.size = size) (hsz : 0 < size)
    (B : Nat) (v : Value) (n : Nat) (xs : List Value) (hown : w.ownsRow B e size v n xs)
    (ad : Go.Addr) (m c : Nat) (news : List Value) (hl : news.length = m * size) (hnews : ∀ j u, news[j]? = some u → w.cell? (ad.add j) = some u) (h1 : ∀ u ∈ news, u.oneCell' = true)
    (hm : 0 < m) (h63 : n + m ≤ maxLen) (hbytes : (n + m) * bytes ≤ 140737488355328) (hB : B ≤ w.heap.size) :
    ∃ g cap w', (Builtin.append_ #[t, t] ty #[v, .slice (some ad) m c]).run P w = .ok (.slice (some ⟨g, 0, none⟩) (n + m) cap) w' ∧
      w'.ownsRow B e size (.slice (some ⟨g, 0, none⟩) (n + m) cap) (n + m) (xs ++ news) ∧ ((v.ownBlock = some g ∧ w.grownBy w' (some g)) ∨ (g = w.heap.size ∧ w.grownBy w' none)) ∧ g < w'.heap.size := by
  obtain ⟨g, cap, w', hr, ho, hgr, hat, hlt⟩ := run_append_lies (P := P) w t ty B e i z size bytes ht hi hz hsize hby hzs hsz v n xs hown ad m c news hl hnews h1 hm h63 hbytes hB w.heap.size rfl
  have hsmall : n + m ≤ 9223372036854775807 := by simp only [maxLen] at h63; omega
  refine ⟨g, cap, w', hr, ho, ?_, hlt⟩
  rcases hown.2 with ⟨rfl, rfl⟩ | ⟨g0, cap0, cur, rfl, hbg, hg, hnc, hcm, hcs, htake⟩
  · right
    refine ⟨?_, hgr⟩
    rcases hat with h | h
    · cases h
    · exact h
  · by_cases hroom : n + m ≤ cap0
    · have hfit : n * i.size + news.length ≤ cur.size := by rw [hl, hcs, hsize, ← Nat.add_mul]; exact Nat.mul_le_mul_right _ hroom
      have hr2 := run_append_room (P := P) w t ty e i ht hi g0 n cap0 cur hg ad m c news (by rw [hsize]; exact hl) hnews h1 hroom hfit
      rw [hr] at hr2
      injection hr2 with h3 h4
      injection h3 with h5
      injection h5 with h5
      injection h5 with h5
      subst h5
      exact .inl ⟨rfl, hgr⟩
    · have holds : ∀ j u, xs[j]? = some u → w.cell? ((⟨g0, 0, none⟩ : Go.Addr).add j) = some u := hown.cells (g := g0) rfl
      have hr2 := run_append_grow (P := P) w t ty e i z ht hi hz ⟨g0, 0, none⟩ n cap0 xs (by rw [hsize]; exact hown.1) holds ad m c news (by rw [hsize]; exact hl) hnews (by omega) (by omega) (growslice_fits (by omega) (by rw [hby]; exact hbytes))
      rw [hr] at hr2
      injection hr2 with h3 h4
      injection h3 with h5
      injection h5 with h5
      injection h5 with h5
      subst h5
      refine .inr ⟨rfl, ?_⟩
      rw [h4]
      exact ⟨rfl, rfl, rfl, by simp, fun k hk _ => heap_alloc_old w.drew _ hk⟩
theorem wpList_append_two {P : Program} {w : World} {ops : Array Oper} {rest : List Oper} {o : Oper} {a : Act} {Q : Exit → Act → World → Prop} (hgd : o.guard = none) (s x : Operand) (t : TypeId)
    (ho : o.op = .call { callee := .builtin .append, args := #[s, x], argTypes := #[t, t] })
    (e : TypeId) (i : TypeInfo) (z : Value) (size bytes : Nat) (ht : P.underlying t = some (.slice e)) (hi : P.info? e = some i) (hz : i.zero = some z)
    (hsize : i.size = size) (hby : i.bytes = bytes) (hzs : z.cells.size = size) (hsz : 0 < size)
    (B : Nat) (v : Value) (n : Nat) (xs : List Value) (hs : a.eval s = v) (hown : w.ownsRow B e size v n xs)
    (ad : Go.Addr) (m c : Nat) (news : List Value) (hx : a.eval x = .slice (some ad) m c) (hl : news.length = m * size) (hnews : ∀ j u, news[j]? = some u → w.cell? (ad.add j) = some u) (h1 : ∀ u ∈ news, u.oneCell' = true)
    (hm : 0 < m) (h63 : n + m ≤ maxLen) (hbytes : (n + m) * bytes ≤ 140737488355328) (hB : B ≤ w.heap.size)
    (h : ∀ g cap w', w'.ownsRow B e size (.slice (some ⟨g, 0, none⟩) (n + m) cap) (n + m) (xs ++ news) → ((v.ownBlock = some g ∧ w.grownBy w' (some g)) ∨ (g = w.heap.size ∧ w.grownBy w' none)) → g < w'.heap.size → wpList P ops Q rest (a.put o.dst (.slice (some ⟨g, 0, none⟩) (n + m) cap)) w') : wpList P ops Q (o :: rest) a w :=
  wpList_plain hgd fun K hK => by
    obtain ⟨g, cap, w', hr, h2, h3, h4⟩ := append_two (P := P) w t o.type e i z size bytes ht hi hz hsize hby hzs hsz B v n xs hown ad m c news hl hnews h1 hm h63 hbytes hB
    unfold Oper.wp execOp
    simp only [ho, resolve, invoke, builtin, Sem.run_bind, Sem.run_pure, Result.andThen_ok, List.map_toArray, List.map_cons, List.map_nil, hs, hx, hr]
    exact hK _ _ (h g cap w' h2 h3 h4)
theorem Fr.step {S T : Nat → Prop} {w0 w w' : World} (h : Fr S w0 w) (hg : Fr T w w') (hT : ∀ k, k < w0.heap.size → T k → S k) : Fr S w0 w' :=
  ⟨hg.os.trans h.os, hg.tape.trans h.tape, hg.output.trans h.output, Nat.le_trans h.size hg.size, fun k hk hS => (hg.block k (Nat.lt_of_lt_of_le hk h.size) fun ht => hS (hT k hk ht)).trans (h.block k hk hS)⟩
theorem slice_some {w : World} {E : TypeId} {size : Nat} {v : Value} {n : Nat} {xs : List Value} (h : w.ownsRow 0 E size v n xs) : ∃ p c, v = .slice p n c ∧ (0 < n → ∃ g, p = some ⟨g, 0, none⟩) := by
  rcases h.2 with ⟨h1, h2⟩ | ⟨g, c, _, h1, _⟩
  · exact ⟨none, 0, by rw [h1, h2], fun h => by omega⟩
  · exact ⟨_, c, h1, fun _ => ⟨g, rfl⟩⟩
/-- Two lists with no block in common. -/
def Dj (v u : Value) : Prop := ∀ k, v.ownBlock = some k → u.ownBlock ≠ some k
theorem Dj.symm {v u : Value} (h : Dj v u) : Dj u v := fun k h1 h2 => h k h2 h1
theorem own_types {w : World} {B B' : Nat} {E E' : TypeId} {s s' : Nat} {v v' : Value} {n n' : Nat} {xs xs' : List Value} (h : w.ownsRow B E s v n xs) (h' : w.ownsRow B' E' s' v' n' xs') (hE : E ≠ E') : Dj v v' := fun k h1 h2 => by
  rcases h.2 with ⟨rfl, _⟩ | ⟨g, c, cur, rfl, _, hg, _⟩
  · cases h1
  · rcases h'.2 with ⟨rfl, _⟩ | ⟨g', c', cur', rfl, _, hg', _⟩
    · cases h2
    · have e1 : g = k := by injection h1
      have e2 : g' = k := by injection h2
      subst e1; subst e2
      rw [hg] at hg'
      injection hg' with hg'
      injection hg' with _ h3 _
      exact hE h3
theorem fr_row {w w' : World} {v : Value} {g : Nat} (hg : (v.ownBlock = some g ∧ w.grownBy w' (some g)) ∨ (g = w.heap.size ∧ w.grownBy w' none)) : Fr (fun k => v.ownBlock = some k) w w' := by
  rcases hg with ⟨h1, h2⟩ | ⟨_, h2⟩
  · exact (Fr.grown h2).mono fun k _ e => h1.trans e
  · exact (Fr.grown h2).mono fun k _ e => by cases e
/-- One operation of a region that draws its order, guarded or not. -/
theorem any_stepG {P : Program} {md : Region.Mode} {ops : Array Oper} {Q : Exit → Act → World → Prop} {fuel : Nat} {listed : Array Bool} {a : Act} {w : World} (i : Nat) {o : Oper} (hr : Region.ready md ops listed = [i]) (ho : ops[i]? = some o) (hw : Region.wanted o (yielded ops a.tmps) = true)
    (h : Oper.wp P o a w (wpAny P md ops Q fuel (listed.setIfInBounds i true)) Q) : wpAny P md ops Q (fuel + 1) listed a w :=
  wpAny_ready hr (by simp) (AllReady.cons ho (fun K hK => by rw [if_pos hw]; exact Oper.wp_mono hK h) AllReady.nil)
theorem any_stepG2 {P : Program} {md : Region.Mode} {ops : Array Oper} {Q : Exit → Act → World → Prop} {fuel : Nat} {listed : Array Bool} {a : Act} {w : World} (i j : Nat) {o p : Oper} (hr : Region.ready md ops listed = [i, j]) (ho : ops[i]? = some o) (hp : ops[j]? = some p) (hw : Region.wanted o (yielded ops a.tmps) = true) (hwp : Region.wanted p (yielded ops a.tmps) = true)
    (h : Oper.wp P o a w (wpAny P md ops Q fuel (listed.setIfInBounds i true)) Q) (h2 : Oper.wp P p a w (wpAny P md ops Q fuel (listed.setIfInBounds j true)) Q) : wpAny P md ops Q (fuel + 1) listed a w :=
  wpAny_ready hr (by simp) (AllReady.cons ho (fun K hK => by rw [if_pos hw]; exact Oper.wp_mono hK h)
    (AllReady.cons hp (fun K hK => by rw [if_pos hwp]; exact Oper.wp_mono hK h2) AllReady.nil))
theorem wp_enterG {P : Program} {o : Oper} {a : Act} {w : World} {K : Act → World → Prop} {Q : Exit → Act → World → Prop} (f : FuncId) (args : Array Value) (hrun : (execOp a.eval o).run P w = .ok (.enter f args) w)
    (h : Calls P f args w fun e w' => ∃ v, e = .returned v ∧ K (a.put o.dst v) w') : o.wp P a w K Q := by
  unfold Oper.wp
  rw [hrun, Oper.upon_enter]
  refine h.mono fun e w' ⟨v, he, hk⟩ => ?_
  subst he; exact hk
theorem wpAny_named {P : Program} {md : Region.Mode} {ops : Array Oper} {Q : Exit → Act → World → Prop} {n : Nat} {b : Array Bool} {a : Act} {w : World} {B : Nat} {W0 : World} (h0 : Below B W0 w) (h : ∀ W, Below B W0 W → wpAny P md ops Q n b a W) : wpAny P md ops Q n b a w := h w h0
end Go.Proofs.YtpciggnanlflkaaGreatDoor.Ad
