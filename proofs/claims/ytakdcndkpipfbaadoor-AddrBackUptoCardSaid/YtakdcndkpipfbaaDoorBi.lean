/- Contract of mosaicref03.text: a number's text to the base 10 or 16. Conditions: the number is below 65536. -/
import Derived.Test.YtakdcndkpipfbaaDoorBh
namespace Go.Proofs.YtakdcndkpipfbaaDoor.Ad
set_option linter.unusedVariables false
set_option linter.unusedSimpArgs false
open Go.RowKit W
/-- A text of bytes. -/
def S (l : List UInt8) : ByteArray := ⟨l.toArray⟩
theorem S_app (a b : List UInt8) : S a ++ S b = S (a ++ b) := by
  apply ByteArray.ext
  rw [ByteArray.data_append]
  exact Array.toList_inj.1 (by simp [S])
theorem S_size (a : List UInt8) : (S a).size = a.length := by show a.toArray.size = _; simp
theorem S_list (a : List UInt8) : (S a).data.toList = a := by simp [S]
theorem S_of (s : ByteArray) : S s.data.toList = s := by apply ByteArray.ext; simp [S]
def digits16 : ByteArray := ⟨#[48, 49, 50, 51, 52, 53, 54, 55, 56, 57, 97, 98, 99, 100, 101, 102]⟩
theorem digs16 (k : Nat) (h : k < 16) (h2 : k < digits16.size) : digits16[k] = digC k := by
  have : ∀ k : Fin 16, digits16.data.toList.getD k.val 0 = digC k.val := by decide
  rw [← this ⟨k, h⟩, List.getD_eq_getElem?_getD, List.getElem?_eq_getElem (by simpa using h2)]
  rfl
theorem one_byte {w : World} {g : Nat} {t : TypeId} {x : UInt8} (b : Blk w g t #[.int .u8 (x.toNat : Int)]) : Lib.Bytes w g 0 (S [x]) := fun i hi => by
  have : i = 0 := by rw [S_size] at hi; simp at hi; omega
  subst this
  rw [b.cell]
  rfl
theorem conv1 (b n : Nat) {y : Int} (h : n % b < 16) (hy : y = (((digits16[n % b]'h).toNat : Nat) : Int)) (w : World) : Hid (∀ W2, w.alloc (.cells #[.int .u8 y] 5) = W2 → (convert 52 9 (.slice (some ⟨w.heap.size, 0, none⟩) 1 1)).run Tryd.prog W2 = .ok (.string (S [digC (n % b)])) W2) := Lib.hid fun W2 h2 => by
  have hb : Blk W2 w.heap.size 5 #[.int .u8 ((digC (n % b)).toNat : Int)] := by
    rw [← h2, hy, digs16 _ h h]; exact Blk.new _ _ _
  exact Lib.run_convert_whole (P := Tryd.prog) W2 52 5 9 Tryd.underlying52 Tryd.underlying5 Tryd.underlying9 w.heap.size 0 (S [digC (n % b)]) (one_byte hb) 1
theorem textB_le (b n : Nat) : (textB b n).length ≤ n + 1 := by
  induction n using Nat.strongRecOn with
  | _ n ih =>
    by_cases h : n < b ∨ b < 2
    · rw [textB, dif_pos h]; simp
    · rw [textB, dif_neg h]
      have h1 : n / b < n := Nat.div_lt_self (by omega) (by omega)
      have := ih _ h1
      simp; omega
/-- What is laid and what is left, to a base. -/
def LaidB (b n m : Nat) (ds : List UInt8) : Prop := textB b n = textB b m ++ ds
theorem LaidB.step {b n m : Nat} {ds : List UInt8} (h : LaidB b n m ds) (hm : b ≤ m) (hb : 2 ≤ b) : LaidB b n (m / b) (digC (m % b) :: ds) := by
  unfold LaidB at *
  rw [h, textB_more hm hb]; simp
theorem LaidB.last {b n m : Nat} {ds : List UInt8} (h : LaidB b n m ds) (hm : m < b) : textB b n = digC (m % b) :: ds := by
  unfold LaidB at h
  rw [h, textB_one hm, Nat.mod_eq_of_lt hm]; rfl
set_option maxRecDepth 100000 in
set_option maxHeartbeats 4000000 in
theorem text_calls (b n : Nat) (hb : b = 10 ∨ b = 16) (hn : n < 65536) (w : World) : Calls Tryd.prog 32 #[.int .i64 n, .int .i64 b] w fun e w' => e = .returned (.string (S (textB b n))) ∧ Below w.heap.size w w' := by
  have hb1 : 2 ≤ b := by omega
  have hb2 : b ≤ 16 := by omega
  have hb3 : (b : Int) ≠ 0 := by omega
  clear hb
  go_enter Tryd.func32, Tryd.ntmps32
  go_wp2
  go_loopw [0, 5] (fun u t wr => ∃ (m : Nat) (ds : List UInt8), u = .int .i64 m ∧ t = .string (S ds) ∧ LaidB b n m ds ∧ m ≤ n ∧ Below w.heap.size w wr) (fun u _ _ => (intOf u).toNat)
  case atStart => exact ⟨n, [], rfl, rfl, by simp [LaidB], Nat.le_refl _, Below.refl _ _⟩
  case round =>
    obtain ⟨m, ds, rfl, rfl, hl, hm, r1⟩ := hrel
    have R1 := Lib.hid r1
    have HL := Lib.hid hl
    clear r1 hl
    have hw64 : wrap64 ((m : Int) / b) = ((m / b : Nat) : Int) := by
      have h1 := Nat.div_le_self m b
      rw [show ((m : Int) / b) = ((m / b : Nat) : Int) by simp]
      obtain ⟨q, hq⟩ : ∃ q, m / b = q := ⟨_, rfl⟩
      rw [hq] at h1 ⊢
      unfold wrap64; omega
    have hdl : ¬ 9223372036854775807 < (S [digC (m % b)]).size + (S ds).size := by
      have h1 := textB_le b n
      have h2 := HL.out
      unfold LaidB at h2
      rw [h2] at h1
      rw [S_size, S_size]
      simp at h1 ⊢; omega
    have hk : m % b < 16 := by have := Nat.mod_lt m (show 0 < b by omega); omega
    have hr : ((m : Int).tmod b) = ((m % b : Nat) : Int) := by rw [Int.tmod_eq_emod_of_nonneg (by omega)]; simp
    have hq : ((m : Int).tdiv b) = ((m / b : Nat) : Int) := by rw [Int.tdiv_eq_ediv_of_nonneg (by omega)]; simp
    have hqs : m / b < 65536 := by have := Nat.div_le_self m b; omega
    have hkk : ((m % b : Nat) : Int) < 16 := by omega
    by_cases hlt : m < b
    · have e0 : m / b = 0 := Nat.div_eq_of_lt hlt
      have e1 : (((m / b : Nat) : Int) == 0) = true := by rw [e0]; rfl
      have HT := Lib.hid (HL.out.last hlt)
      clear hlt e0
      go_wp2
      generalize hW2 : wr.alloc (Obj.cells #[_] 5) = W2
      rw [(conv1 b m hk rfl wr).out W2 hW2]
      have HB2 : Hid (Below w.heap.size w W2) := Lib.hid (by rw [← hW2]; exact R1.out.alloc R1.out.size _)
      clear hW2
      have happ := S_app [digC (m % b)] ds
      go_wp2
      go_ret
      exact ⟨by rw [HT.out]; rfl, HB2.out⟩
    · have e0 : 0 < m / b := Nat.div_pos (by omega) (by omega)
      have e1 : (((m / b : Nat) : Int) == 0) = false := beq_eq_false_iff_ne.2 (by omega)
      have e2 : m / b < m := Nat.div_lt_self (by omega) (by omega)
      have HN : Hid (b ≤ m) := Lib.hid (by omega)
      have E2 := Lib.hid e2
      clear hlt e0 e2
      go_wp2
      generalize hW2 : wr.alloc (Obj.cells #[_] 5) = W2
      rw [(conv1 b m hk rfl wr).out W2 hW2]
      have HB2 : Hid (Below w.heap.size w W2) := Lib.hid (by rw [← hW2]; exact R1.out.alloc R1.out.size _)
      clear hW2
      have happ := S_app [digC (m % b)] ds
      go_wp2
      refine ⟨⟨m / b, digC (m % b) :: ds, by rw [hw64], rfl, HL.out.step HN.out hb1, by have := E2.out; omega, HB2.out⟩, by rw [hw64]; show Int.toNat ((m / b : Nat) : Int) < Int.toNat (m : Int); rw [Int.toNat_natCast, Int.toNat_natCast]; exact E2.out⟩
end Go.Proofs.YtakdcndkpipfbaaDoor.Ad
