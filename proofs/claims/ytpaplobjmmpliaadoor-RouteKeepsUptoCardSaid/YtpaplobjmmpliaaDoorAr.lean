/- Bytes of an address: plain facts; a whole array's load. Conditions: an address has sixteen bytes. -/
import Derived.Test.YtpaplobjmmpliaaDoorAl
namespace Go.Proofs.YtpaplobjmmpliaaDoor.Ad
set_option linter.unusedVariables false
set_option linter.unusedSimpArgs false
open Go.RowKit W
def zeros : List UInt8 := [0, 0, 0, 0, 0, 0, 0, 0, 0, 0, 0, 0, 0, 0, 0, 0]
def one6 : List UInt8 := [0, 0, 0, 0, 0, 0, 0, 0, 0, 0, 0, 0, 0, 0, 0, 1]
def bcast : List UInt8 := [255, 255, 255, 255, 0, 0, 0, 0, 0, 0, 0, 0, 0, 0, 0, 0]
def Addr.first (a : Addr) : Int := (a.b.getD 0 0).toNat
def Addr.kind (a : Addr) : Int :=
  if a.valid = false then 0 else if a.b = zeros then 1
  else if a.v = 6 then (if a.b = one6 then 2 else if a.first = 255 then 3 else 5)
  else if a.first = 127 then 2 else if 224 ≤ a.first then (if a.first ≤ 239 then 3 else if a.b = bcast then 4 else 5) else if a.b = bcast then 4 else 5
theorem range_b {w : World} {g : Nat} {a : Addr} (h : Blk w g 35 a.cells) : w.rangeAt g 1 (a.b.map by8) := fun j v hj => by
  rw [h.cell]
  simp only [Addr.cells, List.getElem?_toArray]
  rw [Nat.add_comm, List.getElem?_cons_succ, hj]
theorem szb {l : List UInt8} (h : l.length = 16) : (Tryd.prog.info? 33).map (·.size) = some (l.map by8).length := by rw [List.length_map, h]; kernel_rfl
/-- The sixteen bytes of an address in its block, read as one value. -/
theorem wpList_load_b {ops : Array Oper} {rest : List Oper} {o : Oper} {a : Act} {w : World} {Q : Exit → Act → World → Prop} (hgd : o.guard = none) (x : Operand) (ho : o.op = .load 33 x)
    (g : Nat) (c : Addr) (hx : a.eval x = .pointer (some ⟨g, 1, none⟩)) (hb : Blk w g 35 c.cells) (hc : c.ok) (h : wpList Tryd.prog ops Q rest (a.put o.dst (.agg (bcells c.b))) w) : wpList Tryd.prog ops Q (o :: rest) a w :=
  wpList_load_mid hgd 33 x ho g 1 hx (c.b.map by8) _ (range_b hb) Tryd.underlying33 rfl (szb hc) h
theorem eqb_no {l m : List UInt8} (hl : l.length = 16) (hm : m.length = 16) (h : ¬ l = m) (w : World) : (binOp .eql 33 (.agg (bcells l)) (.agg (bcells m))).run Tryd.prog w = .ok (.bool false) w := by
  rw [eql_bytes l m hl hm, beq_eq_false_iff_ne.2 h]
theorem eqb_yes {l m : List UInt8} (hl : l.length = 16) (hm : m.length = 16) (h : l = m) (w : World) : (binOp .eql 33 (.agg (bcells l)) (.agg (bcells m))).run Tryd.prog w = .ok (.bool true) w := by
  rw [eql_bytes l m hl hm, beq_iff_eq.2 h]
def Addr.nth (a : Addr) (i : Nat) : Int := (a.b.getD i 0).toNat
theorem nth_in (a : Addr) (i : Nat) : 0 ≤ a.nth i ∧ a.nth i ≤ 255 := by
  unfold Addr.nth; have := (a.b.getD i 0).toNat_lt; omega
theorem ext16 {l m : List UInt8} (hl : l.length = 16) (hm : m.length = 16) (h : ∀ i, i < 16 → l.getD i 0 = m.getD i 0) : l = m := by
  apply List.ext_getElem (by omega)
  intro i h1 h2
  have := h i (by omega)
  rwa [List.getD_eq_getElem?_getD, List.getD_eq_getElem?_getD, List.getElem?_eq_getElem h1, List.getElem?_eq_getElem h2] at this
theorem nth_nz {a : Addr} {i : Nat} (h : a.nth i = 0) : a.b.getD i 0 = 0 := UInt8.toNat_inj.1 (by unfold Addr.nth at h; simpa using h)
theorem is_one {a : Addr} (ha : a.ok) (h : ∀ j, j < 15 → a.b.getD j 0 = 0) (h1 : a.nth 15 = 1) : a.b = one6 := ext16 ha rfl fun i hi => by
  rcases Nat.lt_or_ge i 15 with h2 | h2
  · rw [h i h2]; match i, h2 with
    | 0, _ => rfl
    | 1, _ => rfl
    | 2, _ => rfl
    | 3, _ => rfl
    | 4, _ => rfl
    | 5, _ => rfl
    | 6, _ => rfl
    | 7, _ => rfl
    | 8, _ => rfl
    | 9, _ => rfl
    | 10, _ => rfl
    | 11, _ => rfl
    | 12, _ => rfl
    | 13, _ => rfl
    | 14, _ => rfl
  · obtain rfl : i = 15 := by omega
    have e : (a.b.getD 15 0).toNat = 1 := by unfold Addr.nth at h1; omega
    exact UInt8.toNat_inj.1 (e.trans rfl)
theorem one_at (k : Nat) (hk : k < 16) (h : one6.getD k 0 ≠ 0) : k = 15 := by
  have : ∀ k : Fin 16, one6.getD k.val 0 ≠ 0 → k.val = 15 := by decide
  exact this ⟨k, hk⟩ h
theorem and4 (a b c d : Nat) (ha : a < 256) (hb : b < 256) (hc : c < 256) (hd : d < 256) : (Go.bits .and .u8 (Go.bits .and .u8 (Go.bits .and .u8 (a : Int) b) c) d == 255) = decide (a = 255 ∧ b = 255 ∧ c = 255 ∧ d = 255) := by
  have h1 : a &&& b ≤ a := Nat.and_le_left
  have h2 : a &&& b ≤ b := Nat.and_le_right
  have h3 : a &&& b &&& c ≤ a &&& b := Nat.and_le_left
  have h4 : a &&& b &&& c ≤ c := Nat.and_le_right
  have h5 : a &&& b &&& c &&& d ≤ a &&& b &&& c := Nat.and_le_left
  have h6 : a &&& b &&& c &&& d ≤ d := Nat.and_le_right
  rw [u8_and_nat a b ha hb, u8_and_nat _ c (by omega) hc, u8_and_nat _ d (by omega) hd]
  by_cases h : a = 255 ∧ b = 255 ∧ c = 255 ∧ d = 255
  · obtain ⟨rfl, rfl, rfl, rfl⟩ := h
    decide
  · rw [decide_eq_false h, beq_eq_false_iff_ne]
    intro h'
    have : a &&& b &&& c &&& d = 255 := Int.ofNat_inj.1 h'
    exact h ⟨by omega, by omega, by omega, by omega⟩
theorem is_bcast {a : Addr} (ha : a.ok) (hz : ∀ k, k < 12 → a.b.getD (4 + k) 0 = 0) : a.b = bcast ↔ (a.b.getD 0 0).toNat = 255 ∧ (a.b.getD 1 0).toNat = 255 ∧ (a.b.getD 2 0).toNat = 255 ∧ (a.b.getD 3 0).toNat = 255 := by
  constructor
  · intro h; rw [h]; decide
  · rintro ⟨h0, h1, h2, h3⟩
    refine ext16 ha rfl fun i hi => ?_
    rcases Nat.lt_or_ge i 4 with h4 | h4
    · match i, h4 with
      | 0, _ => exact UInt8.toNat_inj.1 h0
      | 1, _ => exact UInt8.toNat_inj.1 h1
      | 2, _ => exact UInt8.toNat_inj.1 h2
      | 3, _ => exact UInt8.toNat_inj.1 h3
    · have := hz (i - 4) (by omega)
      rw [show 4 + (i - 4) = i by omega] at this
      rw [this]
      have : ∀ j : Fin 12, bcast.getD (4 + j.val) 0 = 0 := by decide
      have := this ⟨i - 4, by omega⟩
      rw [show 4 + (i - 4) = i by omega] at this
      exact this.symm
theorem valid_zeros {a : Addr} (ha : a.ok) (hv : a.valid = true) (h6 : a.v ≠ 6) (k : Nat) (hk : k < 12) : a.b.getD (4 + k) 0 = 0 := by
  by_cases h : a.b.getD (4 + k) 0 = 0
  · exact h
  · have := Addr.bits_hole ha h6 k hk h
    unfold Addr.valid at hv; rw [this] at hv; cases hv
theorem bcast_iff {a : Addr} (ha : a.ok) (hv : a.valid = true) (h6 : a.v ≠ 6) : (Go.bits .and .u8 (Go.bits .and .u8 (Go.bits .and .u8 (a.nth 0) (a.nth 1)) (a.nth 2)) (a.nth 3) == 255) = decide (a.b = bcast) := by
  unfold Addr.nth
  rw [and4 _ _ _ _ (UInt8.toNat_lt _) (UInt8.toNat_lt _) (UInt8.toNat_lt _) (UInt8.toNat_lt _)]
  exact decide_eq_decide.2 (is_bcast ha fun k hk => valid_zeros ha hv h6 k hk).symm
end Go.Proofs.YtpaplobjmmpliaaDoor.Ad
