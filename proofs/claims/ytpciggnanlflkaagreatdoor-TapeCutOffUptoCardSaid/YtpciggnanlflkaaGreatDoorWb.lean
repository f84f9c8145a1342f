/- Records in memory; contracts of tape.may and tape.number. Conditions: none beyond those that each theorem states. -/
import Derived.Test.YtpciggnanlflkaaGreatDoorWa
import Derived.Lib.Builder
namespace Go.Proofs.YtpciggnanlflkaaGreatDoor.Ad
set_option linter.unusedVariables false
set_option linter.unusedSimpArgs false
open Go.RowKit Go.Maps W
/-- A record's cells; d: its data. -/
def recC (r : Rec) (d : Value) : List Value := [.int .i64 r.tk, .int .i64 r.node, .bool r.out, .int .i64 r.long, d]
/-- Bytes that can be read. -/
def BAt (w : World) (p : Option Go.Addr) (l : List UInt8) : Prop := l = [] ∨ ∃ g o, p = some ⟨g, o, none⟩ ∧ g < w.heap.size ∧ Lib.Bytes w g o (S l)
/-- A slice as Go has them. -/
def SlOk (p : Option Go.Addr) (n c : Nat) : Prop := n ≤ c ∧ (p = none → c = 0)
/-- Records that can be read. -/
def RAt (w : World) (p : Option Go.Addr) (l : List Rec) : Prop := l = [] ∨ ∃ g o, p = some ⟨g, o, none⟩ ∧ g < w.heap.size ∧ ∀ (i : Nat) (r : Rec), l[i]? = some r → ∃ pd cd, w.rangeAt g (o + i * 5) (recC r (.slice pd r.data.length cd)) ∧ BAt w pd r.data ∧ SlOk pd r.data.length cd
set_option maxRecDepth 100000 in
set_option maxHeartbeats 2000000 in
theorem may_calls (r : Rec) (pd : Option Go.Addr) (cd : Nat) (snap frm : Int) (w : World) : Calls Tryz.prog 43 #[.agg (recC r (.slice pd r.data.length cd)).toArray, .int .i64 snap, .int .i64 frm] w fun e w' => e = .returned (.bool (mayV r snap frm)) ∧ Below w.heap.size w w' := by
  unfold recC
  go_enter Tryz.func43, Tryz.ntmps43
  go_upto_region 1 with fail
  refine wp_named fun W hW => ?_
  obtain ⟨bk, BW, sW⟩ := box1 hW
  have c0 : W.cell? ⟨w.heap.size, 0, none⟩ = some (.int .i64 r.tk) := bk.out.cell _
  have c1 : W.cell? ⟨w.heap.size, 1, none⟩ = some (.int .i64 r.node) := bk.out.cell _
  have c3 : W.cell? ⟨w.heap.size, 3, none⟩ = some (.int .i64 r.long) := bk.out.cell _
  have c4 : W.cell? ⟨w.heap.size, 4, none⟩ = some (.slice pd r.data.length cd) := bk.out.cell _
  clear hW bk
  by_cases h0 : r.tk < frm
  · have f0 : decide (r.tk < frm) = true := decide_eq_true h0
    have HM : Hid (mayV r snap frm = false) := Lib.hid (decide_eq_false (by omega))
    clear h0
    go_wp2
    go_ret
    exact ⟨by rw [HM.out]; rfl, BW.out⟩
  have f0 : decide (r.tk < frm) = false := decide_eq_false h0
  by_cases h1 : 1099511627776 < r.tk
  · have f1 : decide (1099511627776 < r.tk) = true := decide_eq_true h1
    have HM : Hid (mayV r snap frm = false) := Lib.hid (decide_eq_false (by omega))
    clear h1
    go_wp2
    go_ret
    exact ⟨by rw [HM.out]; rfl, BW.out⟩
  have f1 : decide (1099511627776 < r.tk) = false := decide_eq_false h1
  by_cases h2 : r.node < 0
  · have f2 : decide (r.node < 0) = true := decide_eq_true h2
    have HM : Hid (mayV r snap frm = false) := Lib.hid (decide_eq_false (by omega))
    clear h2
    go_wp2
    go_ret
    exact ⟨by rw [HM.out]; rfl, BW.out⟩
  have f2 : decide (r.node < 0) = false := decide_eq_false h2
  by_cases h3 : 16 ≤ r.node
  · have f3 : decide (16 ≤ r.node) = true := decide_eq_true h3
    have HM : Hid (mayV r snap frm = false) := Lib.hid (decide_eq_false (by omega))
    clear h3
    go_wp2
    go_ret
    exact ⟨by rw [HM.out]; rfl, BW.out⟩
  have f3 : decide (16 ≤ r.node) = false := decide_eq_false h3
  by_cases h4 : r.long < 0
  · have f4 : decide (r.long < 0) = true := decide_eq_true h4
    have HM : Hid (mayV r snap frm = false) := Lib.hid (decide_eq_false (by omega))
    clear h4
    go_wp2
    go_ret
    exact ⟨by rw [HM.out]; rfl, BW.out⟩
  have f4 : decide (r.long < 0) = false := decide_eq_false h4
  by_cases h5 : 65575 < r.long
  · have f5 : decide (65575 < r.long) = true := decide_eq_true h5
    have HM : Hid (mayV r snap frm = false) := Lib.hid (decide_eq_false (by omega))
    clear h5
    go_wp2
    go_ret
    exact ⟨by rw [HM.out]; rfl, BW.out⟩
  have f5 : decide (65575 < r.long) = false := decide_eq_false h5
  have hm : mayV r snap frm = decide ((r.data.length : Int) = min r.long snap) := by
    unfold mayV
    rw [decide_eq_decide]
    constructor
    · intro h; exact h.2.2.2.2.2.2
    · intro h; exact ⟨by omega, by omega, by omega, by omega, by omega, by omega, h⟩
  have HM := Lib.hid hm
  clear hm h0 h1 h2 h3 h4 h5
  go_wp2
  go_ret
  exact ⟨by rw [HM.out]; rfl, BW.out⟩
theorem numB_take (v : Int) : ∀ n j, j < n → (numB v n).take (j + 1) = (numB v n).take j ++ [byteV v (n - 1 - j)]
  | 0, j, h => absurd h (Nat.not_lt_zero j)
  | n + 1, 0, _ => by simp [numB]
  | n + 1, j + 1, h => by
    have ih := numB_take v n j (by omega)
    rw [numB, List.take_succ_cons, ih, List.take_succ_cons]
    rw [show n + 1 - 1 - (j + 1) = n - 1 - j by omega]; rfl
theorem byteV_is (v : Int) (k : Nat) : ((byteV v k).toNat : Int) = v / 2 ^ (8 * k) % 256 := by
  unfold byteV
  have h1 := Int.emod_nonneg (v / 2 ^ (8 * k)) (show (256 : Int) ≠ 0 by omega)
  have h2 := Int.emod_lt_of_pos (v / 2 ^ (8 * k)) (show (0 : Int) < 256 by omega)
  rw [UInt8.toNat_ofNat', Nat.mod_eq_of_lt (by omega)]
  omega
theorem cells_app (l m : List UInt8) : Lib.byteCells (l ++ m) = Lib.byteCells l ++ Lib.byteCells m := by simp [Lib.byteCells]
theorem news_b (w : World) (v : Value) : ∀ j u, [v][j]? = some u → (w.alloc (.cells #[v] 5)).cell? ((⟨w.heap.size, 0, none⟩ : Go.Addr).add j) = some u := fun j u hu => by
  rw [Addr.add_lit, (Blk.new w 5 #[v]).cell, Nat.zero_add]
  cases j with
  | zero => simpa using hu
  | succ j => simp at hu
/-- What appends onto an own list leave: all stands but for the list's own block; the list they leave lies in that block or in new memory. -/
structure Ap (x : Value) (w : World) (x' : Value) (w' : World) : Prop where
  fr : Fr (fun k => x.ownBlock = some k) w w'
  own : ∀ k, x'.ownBlock = some k → k < w.heap.size → x.ownBlock = some k
theorem Ap.refl (x : Value) (w : World) : Ap x w x w := ⟨Fr.refl _ _, fun _ h _ => h⟩
theorem Ap.of {x : Value} {w w' : World} (h : Below w.heap.size w w') : Ap x w x w' := ⟨Fr.of h, fun _ h _ => h⟩
theorem Ap.trans {x y z : Value} {w w' w'' : World} (h : Ap x w y w') (k : Ap y w' z w'') : Ap x w z w'' :=
  ⟨h.fr.step k.fr fun j hj e => h.own j e hj, fun j hj hl => h.own j (k.own j hj (Nat.lt_of_lt_of_le hl h.fr.size)) hl⟩
theorem Ap.row {x : Value} {w w' : World} {g n cap : Nat} (hg : (x.ownBlock = some g ∧ w.grownBy w' (some g)) ∨ (g = w.heap.size ∧ w.grownBy w' none)) : Ap x w (.slice (some ⟨g, 0, none⟩) n cap) w' :=
  ⟨fr_row hg, fun k hk hl => by
    have e : g = k := by injection hk
    subst e
    rcases hg with ⟨h1, _⟩ | ⟨h1, _⟩
    · exact h1
    · omega⟩
theorem Ap.ne {x x' : Value} {w w' : World} {g : Nat} (h : Ap x w x' w') (hx : x.ownBlock ≠ some g) (hg : g < w.heap.size) : x'.ownBlock ≠ some g := fun e => hx (h.own g e hg)
theorem Ap.blk {x x' : Value} {w w' : World} {g : Nat} {t : TypeId} {cs : Array Value} (h : Ap x w x' w') (hb : Blk w g t cs) (hx : x.ownBlock ≠ some g) : Blk w' g t cs := h.fr.blk hb hx
theorem Ap.below {x x' : Value} {w w' : World} {B : Nat} (h : Ap x w x' w') (hx : ∀ k, x.ownBlock = some k → B ≤ k) (hB : B ≤ w.heap.size) : Below B w w' := h.fr.below (fun k hk e => by have := hx k e; omega) hB
theorem own_ge {w : World} {B : Nat} {E : TypeId} {size : Nat} {v : Value} {n : Nat} {xs : List Value} (h : w.ownsRow B E size v n xs) : ∀ k, v.ownBlock = some k → B ≤ k := fun k hk => (h.lt k hk).1
theorem own_fresh {w : World} {B : Nat} {E : TypeId} {size : Nat} {v : Value} {n : Nat} {xs : List Value} (h : w.ownsRow B E size v n xs) : v.ownBlock ≠ some w.heap.size := fun e => by have := (h.lt _ e).2; omega
set_option maxRecDepth 100000 in
set_option maxHeartbeats 2000000 in
theorem number_calls (B : Nat) (l : List UInt8) (x : Value) (v : Int) (n : Nat) (hn : n ≤ 8) (m : Int) (hm : m = n) (w : World) (hx : w.ownsRow B 5 1 x l.length (Lib.byteCells l)) (hB : B ≤ w.heap.size) (hl : l.length ≤ 4294967296) :
    Calls Tryz.prog 33 #[x, .int .i64 v, .int .i64 m] w fun e w' => ∃ x' l', e = .returned x' ∧ Hid (l' = l ++ numB v n) ∧ Hid (w'.ownsRow B 5 1 x' l'.length (Lib.byteCells l')) ∧ Hid (Ap x w x' w') := by
  subst hm
  obtain ⟨i0, hi, hz0, hz1, hz2⟩ := info_parts (show (Tryz.prog.info? 5).map (fun i => (i.zero, i.size, i.bytes)) = some (some (.int .u8 0), 1, 1) by kernel_rfl)
  have HX := Lib.hid hx
  obtain ⟨ll, hll⟩ : ∃ k, l.length = k := ⟨_, rfl⟩
  have HLL := Lib.hid hll
  rw [hll] at HX hl
  clear hx hll
  go_enter Tryz.func33, Tryz.ntmps33
  go_wp2
  go_loopw [0, 2] (fun u0 u2 wr => ∃ (j : Nat) (y : Value), u2 = .int .i64 ((n : Int) - 1 - j) ∧ u0 = y ∧ j ≤ n ∧ Hid (wr.ownsRow B 5 1 y (ll + j) (Lib.byteCells (l ++ (numB v n).take j))) ∧ Hid (Ap x w y wr)) (fun _ u2 _ => (intOf u2 + 1).toNat)
  case atStart => exact ⟨0, _, by go_num, rfl, Nat.zero_le _, by simpa using HX, Lib.hid (Ap.refl _ _)⟩
  case round =>
    obtain ⟨j, y, rfl, rfl, hj, HY, HW⟩ := hrel
    have HSZ : Hid (B ≤ wr.heap.size) := Lib.hid (Nat.le_trans hB HW.out.fr.size)
    by_cases hlt : j < n
    · have e1 : decide ((0 : Int) ≤ (n : Int) - 1 - (j : Int)) = true := decide_eq_true (by omega)
      obtain ⟨k, hk⟩ : ∃ k : Nat, (n : Int) - 1 - (j : Int) = k := ⟨n - 1 - j, by omega⟩
      have HK : Hid (n - 1 - j = k) := Lib.hid (by omega)
      rw [hk] at e1 ⊢
      have hk8 : k < 8 := by omega
      have HWA : Hid (Ap u0 wr u0 (wr.alloc (.cells #[.int .u8 (v / 2 ^ (8 * k) % 256)] 5))) := Lib.hid (Ap.of ((Below.refl _ _).alloc (Nat.le_refl _) _))
      have HNX : Hid (Lib.byteCells (l ++ (numB v n).take (j + 1)) = Lib.byteCells (l ++ (numB v n).take j) ++ [.int .u8 (v / 2 ^ (8 * k) % 256)]) := Lib.hid (by
        rw [numB_take v n j hlt, HK.out, ← List.append_assoc, cells_app]
        congr 1
        show [Value.int .u8 ((byteV v k).toNat : Int)] = _
        rw [byteV_is])
      go_wp2_with (at_builtin; refine wpList_append_two rfl _ _ 26 rfl 5 i0 _ 1 1 Tryz.underlying26 hi hz0 hz1 hz2 (by rfl) (by omega) B u0 (ll + j) _ rfl (World.ownsRow.alloc HY.out _) ⟨wr.heap.size, 0, none⟩ 1 1 [.int .u8 (v / 2 ^ (8 * k) % 256)] rfl rfl (news_b _ _) (fun u hu => by rw [List.mem_singleton.1 hu]; rfl) (by omega) (by unfold maxLen; omega) (by omega) (by have := HSZ.out; simp; omega) ?_; intro g cap w1 hown hgr hlt')
      rw [← HNX.out] at hown
      have HB1 := Lib.hid ((HW.out.trans HWA.out).trans (Ap.row (n := ll + j + 1) (cap := cap) hgr))
      exact ⟨⟨j + 1, _, by go_num, rfl, by omega, Lib.hid hown, HB1⟩, by simp [intOf] <;> omega⟩
    · have e1 : decide ((0 : Int) ≤ (n : Int) - 1 - (j : Int)) = false := decide_eq_false (by omega)
      obtain rfl : j = n := by omega
      have hlen : (l ++ numB v j).length = ll + j := by have := HLL.out; simp [numB_len]; omega
      have HF : Hid (wr.ownsRow B 5 1 u0 (l ++ numB v j).length (Lib.byteCells (l ++ numB v j))) := Lib.hid (by
        have h := HY.out
        rw [List.take_of_length_le (by rw [numB_len]; omega)] at h
        rw [hlen]; exact h)
      clear hlt hj hlen
      go_wp2
      go_ret
      exact ⟨_, _, rfl, Lib.hid rfl, HF, HW⟩
end Go.Proofs.YtpciggnanlflkaaGreatDoor.Ad
